/- What the purse's small functions come to in the machine; each under its own hypotheses alone. -/
import Derived.Test.YtlmfdlmbahlojaaPF
set_option autoImplicit false
set_option maxRecDepth 100000
set_option linter.unusedSimpArgs false
namespace Go.AM
open Go Go.RowKit Go.Proofs

abbrev i64 (n : Int) : AV := .v (.int .i64 n)
abbrev bl (b : Bool) : AV := .v (.bool b)

def wi (v m : Int) : Bool := decide (0 ≤ v) && decide (v ≤ m)
theorem within_c (v m : Int) : retOf (callL PE 12 [i64 v, i64 m] []) = some (.ret (bl (wi v m))) := by
  rw [cu12]
  conv in codeOf _ => simp only [codeOf, Try.f12]
  simp only [tb12, RR, RC, FF, pext, gd, noDef, kindOf, sl1, allocs, isLit, ↓br_i, ↓reduceIte, reduceCtorEq, List.replicate, decide_eq_true_eq, decide_eq_false_iff_not, decide_true, decide_false, beq_self_eq_true, if_true, if_false, ite_not, Nat.le_refl, Int.cast_ofNat_Int, Nat.reduceAdd, Nat.reduceMul, Nat.reduceDiv, Nat.reduceMod, Nat.reduceSub, Nat.reduceEqDiff, Nat.reduceLT, Nat.reduceLeDiff, Nat.reduceBeqDiff, Int.reduceLT, Int.reduceLE, Int.reduceEq, Int.reduceToNat, Int.reduceAdd, Int.reduceSub, Int.reduceMul, Int.reduceNeg]
  split <;> simp only [*, tb12, wi, RR, RC, FF, pext, gd, noDef, kindOf, sl1, allocs, isLit, ↓br_i, ↓reduceIte, reduceCtorEq, List.replicate, decide_eq_true_eq, decide_eq_false_iff_not, decide_true, decide_false, beq_self_eq_true, if_true, if_false, ite_not, Nat.le_refl, Int.cast_ofNat_Int, Nat.reduceAdd, Nat.reduceMul, Nat.reduceDiv, Nat.reduceMod, Nat.reduceSub, Nat.reduceEqDiff, Nat.reduceLT, Nat.reduceLeDiff, Nat.reduceBeqDiff, Int.reduceLT, Int.reduceLE, Int.reduceEq, Int.reduceToNat, Int.reduceAdd, Int.reduceSub, Int.reduceMul, Int.reduceNeg]
theorem within_e (v m : Int) (h : Heap) : callEL PE 12 [i64 v, i64 m] h = some (.val (bl (wi v m)) h fp0) :=
  call_ret (E := PE) (f := 12) rfl rfl rfl (within_c v m) (fun _ => rfl) rfl

def isWish (a b : Int) : Bool := wi a 1048576 && wi b 1048576
theorem wish_c (a b : Int) : retOf (callL PE 8 [.agg [i64 a, i64 b]] []) = some (.ret (bl (isWish a b))) := by
  rw [cu8]
  conv in codeOf _ => simp only [codeOf, Try.f8]
  simp only [within_e, tb8, RR, RC, FF, pext, gd, noDef, kindOf, sl1, allocs, isLit, ↓br_i, ↓reduceIte, reduceCtorEq, List.replicate, decide_eq_true_eq, decide_eq_false_iff_not, decide_true, decide_false, beq_self_eq_true, if_true, if_false, ite_not, Nat.le_refl, Int.cast_ofNat_Int, Nat.reduceAdd, Nat.reduceMul, Nat.reduceDiv, Nat.reduceMod, Nat.reduceSub, Nat.reduceEqDiff, Nat.reduceLT, Nat.reduceLeDiff, Nat.reduceBeqDiff, Int.reduceLT, Int.reduceLE, Int.reduceEq, Int.reduceToNat, Int.reduceAdd, Int.reduceSub, Int.reduceMul, Int.reduceNeg]
  split <;> simp only [*, within_e, tb8, isWish, RR, RC, FF, pext, gd, noDef, kindOf, sl1, allocs, isLit, ↓br_i, ↓reduceIte, reduceCtorEq, List.replicate, decide_eq_true_eq, decide_eq_false_iff_not, decide_true, decide_false, beq_self_eq_true, if_true, if_false, ite_not, Nat.le_refl, Int.cast_ofNat_Int, Nat.reduceAdd, Nat.reduceMul, Nat.reduceDiv, Nat.reduceMod, Nat.reduceSub, Nat.reduceEqDiff, Nat.reduceLT, Nat.reduceLeDiff, Nat.reduceBeqDiff, Int.reduceLT, Int.reduceLE, Int.reduceEq, Int.reduceToNat, Int.reduceAdd, Int.reduceSub, Int.reduceMul, Int.reduceNeg]
theorem wish_e (a b : Int) (h : Heap) : callEL PE 8 [.agg [i64 a, i64 b]] h = some (.val (bl (isWish a b)) h fp0) :=
  call_ret (E := PE) (f := 8) rfl rfl rfl (wish_c a b) (fun _ => rfl) rfl

def isPurse (a b c d : Int) : Bool := wi c 1073741824 && wi d 1073741824 && wi a c && wi b d
theorem may_c (a b c d : Int) : retOf (callL PE 7 [.agg [i64 a, i64 b, i64 c, i64 d]] []) = some (.ret (bl (isPurse a b c d))) := by
  rw [cu7]
  conv in codeOf _ => simp only [codeOf, Try.f7]
  simp only [within_e, tb7, RR, RC, FF, pext, gd, noDef, kindOf, sl1, allocs, isLit, ↓br_i, ↓reduceIte, reduceCtorEq, List.replicate, decide_eq_true_eq, decide_eq_false_iff_not, decide_true, decide_false, beq_self_eq_true, if_true, if_false, ite_not, Nat.le_refl, Int.cast_ofNat_Int, Nat.reduceAdd, Nat.reduceMul, Nat.reduceDiv, Nat.reduceMod, Nat.reduceSub, Nat.reduceEqDiff, Nat.reduceLT, Nat.reduceLeDiff, Nat.reduceBeqDiff, Int.reduceLT, Int.reduceLE, Int.reduceEq, Int.reduceToNat, Int.reduceAdd, Int.reduceSub, Int.reduceMul, Int.reduceNeg]
  all_goals repeat' (first | (split <;> simp only [*, within_e, tb7, RR, RC, FF, pext, gd, noDef, kindOf, sl1, allocs, isLit, ↓br_i, ↓reduceIte, reduceCtorEq, List.replicate, decide_eq_true_eq, decide_eq_false_iff_not, decide_true, decide_false, beq_self_eq_true, if_true, if_false, ite_not, Nat.le_refl, Int.cast_ofNat_Int, Nat.reduceAdd, Nat.reduceMul, Nat.reduceDiv, Nat.reduceMod, Nat.reduceSub, Nat.reduceEqDiff, Nat.reduceLT, Nat.reduceLeDiff, Nat.reduceBeqDiff, Int.reduceLT, Int.reduceLE, Int.reduceEq, Int.reduceToNat, Int.reduceAdd, Int.reduceSub, Int.reduceMul, Int.reduceNeg]))
  all_goals simp [isPurse, *]
theorem may_e (a b c d : Int) (h : Heap) : callEL PE 7 [.agg [i64 a, i64 b, i64 c, i64 d]] h = some (.val (bl (isPurse a b c d)) h fp0) :=
  call_ret (E := PE) (f := 7) rfl rfl rfl (may_c a b c d) (fun _ => rfl) rfl

def partS (a b s : Int) : AV := if isWish a b = true ∧ 0 ≤ s ∧ s ≤ 65536 then .tup [.agg [i64 ((IntKind.i64.wrap (a * s)).fdiv (2 ^ min 16 IntKind.i64.bits)), i64 ((IntKind.i64.wrap (b * s)).fdiv (2 ^ min 16 IntKind.i64.bits))], i64 0]
  else .tup [.agg [i64 0, i64 0], i64 1]
theorem part_c (a b s : Int) : retOf (callL PE 11 [.agg [i64 a, i64 b], i64 s] []) = some (.ret (partS a b s)) := by
  rw [cu11]
  conv in codeOf _ => simp only [codeOf, Try.f11]
  simp only [wish_e, tb11, RR, RC, FF, pext, gd, noDef, kindOf, sl1, allocs, isLit, ↓br_i, ↓reduceIte, reduceCtorEq, List.replicate, decide_eq_true_eq, decide_eq_false_iff_not, decide_true, decide_false, beq_self_eq_true, if_true, if_false, ite_not, Nat.le_refl, Int.cast_ofNat_Int, Nat.reduceAdd, Nat.reduceMul, Nat.reduceDiv, Nat.reduceMod, Nat.reduceSub, Nat.reduceEqDiff, Nat.reduceLT, Nat.reduceLeDiff, Nat.reduceBeqDiff, Int.reduceLT, Int.reduceLE, Int.reduceEq, Int.reduceToNat, Int.reduceAdd, Int.reduceSub, Int.reduceMul, Int.reduceNeg]
  all_goals repeat' (first | (split <;> simp only [*, wish_e, tb11, RR, RC, FF, pext, gd, noDef, kindOf, sl1, allocs, isLit, ↓br_i, ↓reduceIte, reduceCtorEq, List.replicate, decide_eq_true_eq, decide_eq_false_iff_not, decide_true, decide_false, beq_self_eq_true, if_true, if_false, ite_not, Nat.le_refl, Int.cast_ofNat_Int, Nat.reduceAdd, Nat.reduceMul, Nat.reduceDiv, Nat.reduceMod, Nat.reduceSub, Nat.reduceEqDiff, Nat.reduceLT, Nat.reduceLeDiff, Nat.reduceBeqDiff, Int.reduceLT, Int.reduceLE, Int.reduceEq, Int.reduceToNat, Int.reduceAdd, Int.reduceSub, Int.reduceMul, Int.reduceNeg]))
  trace_state
  all_goals (unfold partS; first | rw [if_pos (by refine ⟨by assumption, by omega, by omega⟩)] | rw [if_neg (by first | omega | simp [*])])
end Go.AM
