/- PurseEqual returns true at every input, and turns nothing: the given statement PurseEqualSaid; no condition. -/
import Derived.Test.YtlmfdlmbahlojaaPX
import Derived.Test.YtlmfdlmbahlojaaAMArg
import Derived.Test.YtlmfdlmbahlojaaRows
import Derived.WalkKit
import Derived.ProofKit
import Derived.OpenShut
import Derived.ChangeOld
import Derived.Below
import Derived.Carry
set_option autoImplicit false
set_option linter.unusedVariables false
namespace Go.Proofs.Ytlmfdlmbahlojaa
open Go.ChangeShapes Go.WideShapes Go.ChangeAt Go.RowKit

theorem own : ownKnob Try.prog.godebug = none := by kernel_rfl
theorem laidOut : laidOutB Try.prog = true := by kernel_rfl

theorem u3 : Try.prog.underlying 3 = some (.int .i64) := by kernel_rfl
theorem u4 : Try.prog.underlying 4 = some .bool := by kernel_rfl
theorem u23 : ∃ fs, Try.prog.underlying 23 = some (.struct fs) ∧ fs.toList.map (fun f => (f.offset, f.type)) = [(0, 3), (1, 3), (2, 3), (3, 3)] := ⟨_, Try.underlying23, by kernel_rfl⟩
theorem u25 : ∃ fs, Try.prog.underlying 25 = some (.struct fs) ∧ fs.toList.map (fun f => (f.offset, f.type)) = [(0, 3), (1, 3)] := ⟨_, Try.underlying25, by kernel_rfl⟩
theorem u26 : Try.prog.underlying 26 = some (.slice 25) := by kernel_rfl
theorem c3 : Try.prog.cellsOf 3 = 1 := by kernel_rfl
theorem c23 : Try.prog.cellsOf 23 = 4 := by kernel_rfl
theorem c25 : Try.prog.cellsOf 25 = 2 := by kernel_rfl

theorem int_of {k : Nat} {x : List AM.AV} (h : AM.Tyd Try.prog k 3 x) : ∃ n, x = [.v (.int .i64 n)] := by
  obtain ⟨m, h, _⟩ := h.int u3
  exact ⟨m, h⟩
theorem purse_of {k : Nat} {x : List AM.AV} (h : AM.Tyd Try.prog k 23 x) : ∃ a b c d, x = [AM.i64 a, AM.i64 b, AM.i64 c, AM.i64 d] := by
  cases k with
  | zero => exact h.elim
  | succ k =>
    obtain ⟨fs, hu, hf⟩ := u23
    obtain ⟨hl, h⟩ := h.struct hu
    rw [c23] at hl
    have g : ∀ (i : Nat), i < 4 → ∃ n, (x.drop i).take 1 = [.v (.int .i64 n)] := by
      intro i hi
      have hm : (i, 3) ∈ fs.toList.map (fun f => (f.offset, f.type)) := by rw [hf]; rcases i with _ | _ | _ | _ | i <;> simp; omega
      obtain ⟨f, hf1, hf2⟩ := List.mem_map.1 hm
      have := h f hf1
      simp only [Prod.mk.injEq] at hf2
      rw [hf2.1, hf2.2, c3] at this
      exact int_of this
    match x, hl with
    | [p, q, r, s], _ =>
      obtain ⟨a, ha⟩ := g 0 (by omega)
      obtain ⟨b, hb⟩ := g 1 (by omega)
      obtain ⟨c, hc⟩ := g 2 (by omega)
      obtain ⟨d, hd⟩ := g 3 (by omega)
      simp at ha hb hc hd
      subst ha hb hc hd
      exact ⟨a, b, c, d, rfl⟩
theorem want_of {k : Nat} {x : List AM.AV} (h : AM.Tyd Try.prog k 25 x) : ∃ a b, x = [AM.i64 a, AM.i64 b] := by
  cases k with
  | zero => exact h.elim
  | succ k =>
    obtain ⟨fs, hu, hf⟩ := u25
    obtain ⟨hl, h⟩ := h.struct hu
    rw [c25] at hl
    have g : ∀ (i : Nat), i < 2 → ∃ n, (x.drop i).take 1 = [.v (.int .i64 n)] := by
      intro i hi
      have hm : (i, 3) ∈ fs.toList.map (fun f => (f.offset, f.type)) := by rw [hf]; rcases i with _ | _ | i <;> simp; omega
      obtain ⟨f, hf1, hf2⟩ := List.mem_map.1 hm
      have := h f hf1
      simp only [Prod.mk.injEq] at hf2
      rw [hf2.1, hf2.2, c3] at this
      exact int_of this
    match x, hl with
    | [p, q], _ =>
      obtain ⟨a, ha⟩ := g 0 (by omega)
      obtain ⟨b, hb⟩ := g 1 (by omega)
      simp at ha hb
      subst ha hb
      exact ⟨a, b, rfl⟩
theorem wants_of {k : Nat} : ∀ {l : List (List AM.AV)}, (∀ x ∈ l, AM.Tyd Try.prog k 25 x) → ∃ w, l = AM.wl w
  | [], _ => ⟨[], rfl⟩
  | x :: l, h => by
    obtain ⟨a, b, rfl⟩ := want_of (h x List.mem_cons_self)
    obtain ⟨w, rfl⟩ := wants_of (fun y hy => h y (List.mem_cons_of_mem _ hy))
    exact ⟨(a, b) :: w, rfl⟩

theorem walk (W : World) (v0 v1 v2 : Value) (hx : ∃ x0 x1 f l, AM.Rel (AM.Ctx.all W) (.agg x0) v0 ∧ AM.Rel (AM.Ctx.all W) (.agg x1) v1 ∧ AM.Rel (AM.Ctx.all W) (.sl f l) v2 ∧ AM.Tyd Try.prog 9 23 x0 ∧ AM.Tyd Try.prog 9 25 x1 ∧ ∀ x ∈ l, AM.Tyd Try.prog 8 25 x) :
    Calls Try.prog 3 #[v0, v1, v2] W fun e w' => e = .returned (.bool true) ∧ Below W.heap.size W w' := by
  obtain ⟨x0, x1, f, l, r0, r1, r2, t0, t1, t2⟩ := hx
  obtain ⟨a, b, c, d, rfl⟩ := purse_of t0
  obtain ⟨m, e, rfl⟩ := want_of t1
  obtain ⟨w, rfl⟩ := wants_of t2
  obtain ⟨h', e'⟩ := AM.of_retOf (AM.equal_c a b c d m e f w)
  obtain ⟨n, hn⟩ := AM.of_callL e'
  exact AM.calls_below AM.pe_ok AM.pe_prog ⟨n, h', hn⟩ (fun g => trivial) ⟨_, _, rfl, r0, _, _, rfl, r1, _, _, rfl, r2, rfl⟩

set_option maxRecDepth 100000 in
theorem lifted (os : Os) (started : os.Started) (H : Type) (enc : TypeId × Value → H) :
    ReturnsInHanded {} Try.checked os 3 .any (Rows.purseEqualSpec.pre6 enc Try.prog Try.f3 Rows.purseEqualRow.domain false) (Rows.purseEqualSpec.post enc Try.prog Try.f3 false true false false) := by
  refine returnsInHanded_of_change (C := Try.checked) own started (by kernel_rfl) Try.func3
    (ChangeSpec.witness6 (enc := enc) (C := Try.checked) false ⟨#[], #[.agg #[.int .i64 0, .int .i64 0, .int .i64 0, .int .i64 0], .agg #[.int .i64 0, .int .i64 0], .slice none 0 0], []⟩ 8 (by kernel_rfl) (by kernel_rfl) (by kernel_rfl) (by kernel_rfl)) ?_
  intro W base args ds gs before hval0 hW hcnd _
  have hval : ∀ (j : Nat) t v, Try.f3.params[j]? = some t → args[j]? = some v → Value.okWide Try.prog W .any base t v := hval0
  have hW' := hW
  obtain ⟨p, q, hA0, hV, rfl, hfz, hnd⟩ := hW
  have hA : DataW.TrodAll enc Try.prog W 0 (fun _ => true) true Try.f3.params.toList args.toList ds p := hA0
  rw [Try.params3] at hA hval
  obtain ⟨v0, vs0, d0, ds0, p0, q0, hargs, rfl, rfl, h0, r0⟩ := trodAll_cons hA
  obtain ⟨v1, vs1, d1, ds1, p1, q1, rfl, rfl, rfl, h1, r1⟩ := trodAll_cons r0
  obtain ⟨v2, vs2, d2, ds2, p2, q2, rfl, rfl, rfl, h2, r2⟩ := trodAll_cons r1
  obtain ⟨rfl, rfl, rfl⟩ := trodAll_nil r2
  obtain rfl : args = #[v0, v1, v2] := by cases args; simp_all
  obtain ⟨rfl, rfl⟩ := trodVars_none hV
  have lt0 : ∀ x ∈ p0, x.block < W.heap.size := by obtain ⟨m, hm⟩ := h0; exact DataW.trod_lt m _ _ _ hm
  have lt1 : ∀ x ∈ p1, x.block < W.heap.size := by obtain ⟨m, hm⟩ := h1; exact DataW.trod_lt m _ _ _ hm
  have lt2 : ∀ x ∈ p2, x.block < W.heap.size := by obtain ⟨m, hm⟩ := h2; exact DataW.trod_lt m _ _ _ hm
  have hx : ∃ x0 x1 f l, AM.Rel (AM.Ctx.all W) (.agg x0) v0 ∧ AM.Rel (AM.Ctx.all W) (.agg x1) v1 ∧ AM.Rel (AM.Ctx.all W) (.sl f l) v2 ∧ AM.Tyd Try.prog 9 23 x0 ∧ AM.Tyd Try.prog 9 25 x1 ∧ ∀ x ∈ l, AM.Tyd Try.prog 8 25 x := by
    obtain ⟨fs0, hu0, _⟩ := u23
    obtain ⟨fs1, hu1, _⟩ := u25
    obtain ⟨cs0, e0, _⟩ := okWide_struct hu0 (hval 0 23 v0 rfl rfl)
    obtain ⟨cs1, e1, _⟩ := okWide_struct hu1 (hval 1 25 v1 rfl rfl)
    obtain ⟨a, len, cap, e2⟩ := okWide_slice u26 (hval 2 26 v2 rfl rfl)
    obtain ⟨x0, z0, t0⟩ := AM.arg_agg (k := 9) e0 h0 (by kernel_rfl)
    obtain ⟨x1, z1, t1⟩ := AM.arg_agg (k := 9) e1 h1 (by kernel_rfl)
    obtain ⟨x2, z2, t2⟩ := AM.arg_one (k := 9) (by rw [e2]; rfl) h2 (by kernel_rfl)
    obtain ⟨f, l, hfl, _, hl⟩ := t2.slice u26
    cases hfl
    exact ⟨x0, x1, f, l, z0, z1, z2, t0, t1, hl⟩
  clear hA0 hval0
  refine (walk W v0 v1 v2 hx).mono fun e W' ⟨he, bel⟩ => ?_
  subst he
  exact ⟨_, rfl, _, _, _, [], _, [], hW', trodAll_mk1 (shut_bool u4 _),
    (trodAll_cons_mk (Below.trod laidOut (by kernel_rfl) (of_decide_eq_true (by kernel_rfl)) h0 bel lt0) (trodAll_cons_mk (Below.trod laidOut (by kernel_rfl) (of_decide_eq_true (by kernel_rfl)) h1 bel lt1) (trodAll_cons_mk (Below.trod laidOut (by kernel_rfl) (of_decide_eq_true (by kernel_rfl)) h2 bel lt2) trodAll_mk0))),
    rfl, bel.frame _, fun h => by cases h⟩

theorem purseEqual_holds : Rows.PurseEqualSaid :=
  OpenClaim.holds_of_wide 3 Try.f3 rfl rfl rfl rfl rfl rfl rfl ⟨rfl, rfl, rfl, rfl, rfl⟩ rfl rfl rfl rfl rfl (by kernel_rfl) Try.func3 (by kernel_rfl)
    (of_decide_eq_true (by kernel_rfl)) (by unfold Func.isWrapper; first | (rw [if_pos (by decide +kernel)]; kernel_rfl) | (rw [if_neg (by decide +kernel)]; exact ⟨rfl, rfl⟩))
    (fun os started H enc _ => lifted os started H enc)
end Go.Proofs.Ytlmfdlmbahlojaa
