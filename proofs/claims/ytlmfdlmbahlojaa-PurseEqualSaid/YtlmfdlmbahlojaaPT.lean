/- What the purse's arithmetic comes to in the machine; each under its own hypotheses alone. -/
import Derived.Test.YtlmfdlmbahlojaaPS
set_option autoImplicit false
set_option maxRecDepth 100000
set_option linter.unusedSimpArgs false
namespace Go.AM
open Go Go.RowKit Go.Proofs

abbrev u64 (n : Int) : AV := .v (.int .u64 n)

theorem wrapU (n : Int) (h0 : 0 ≤ n) (h1 : n < 18446744073709551616) : IntKind.u64.wrap n = n := by
  have : n % 18446744073709551616 = n := Int.emod_eq_of_lt h0 h1
  simp [IntKind.wrap, IntKind.bits, IntKind.signed, this]
theorem wrapI (n : Int) (h0 : -9223372036854775808 ≤ n) (h1 : n < 9223372036854775808) : IntKind.i64.wrap n = n := by
  have p1 : (2 : Int) ^ 64 = 18446744073709551616 := rfl
  have p2 : (2 : Int) ^ (64 - 1) = 9223372036854775808 := rfl
  simp only [IntKind.wrap, IntKind.bits, IntKind.signed, p1, p2, Bool.true_and, decide_eq_true_eq]
  by_cases h : n % 18446744073709551616 ≥ 9223372036854775808
  · rw [if_pos h]; omega
  · rw [if_neg h]; omega
theorem fdiv_pos (a b : Int) (hb : 0 < b) : a.fdiv b = a / b := Int.fdiv_eq_ediv_of_nonneg a (by omega)

theorem size_c (a : Int) : retOf (callL PE 15 [i64 a] []) = some (.ret (u64 (if a < 0 then IntKind.u64.wrap (0 - IntKind.u64.wrap a) else IntKind.u64.wrap a))) := by
  rw [cu15]
  conv in codeOf _ => simp only [codeOf, Try.f15]
  simp only [tb15, RR, RC, FF, pext, gd, noDef, kindOf, sl1, allocs, isLit, ↓br_i, ↓reduceIte, reduceCtorEq, List.replicate, decide_eq_true_eq, decide_eq_false_iff_not, decide_true, decide_false, beq_self_eq_true, if_true, if_false, ite_not, Nat.le_refl, Int.cast_ofNat_Int, Nat.reduceAdd, Nat.reduceMul, Nat.reduceDiv, Nat.reduceMod, Nat.reduceSub, Nat.reduceEqDiff, Nat.reduceLT, Nat.reduceLeDiff, Nat.reduceBeqDiff, Int.reduceLT, Int.reduceLE, Int.reduceEq, Int.reduceToNat, Int.reduceAdd, Int.reduceSub, Int.reduceMul, Int.reduceNeg]
  split <;> simp only [*, tb15, RR, RC, FF, pext, gd, noDef, kindOf, sl1, allocs, isLit, ↓br_i, ↓reduceIte, reduceCtorEq, List.replicate, decide_eq_true_eq, decide_eq_false_iff_not, decide_true, decide_false, beq_self_eq_true, if_true, if_false, ite_not, Nat.le_refl, Int.cast_ofNat_Int, Nat.reduceAdd, Nat.reduceMul, Nat.reduceDiv, Nat.reduceMod, Nat.reduceSub, Nat.reduceEqDiff, Nat.reduceLT, Nat.reduceLeDiff, Nat.reduceBeqDiff, Int.reduceLT, Int.reduceLE, Int.reduceEq, Int.reduceToNat, Int.reduceAdd, Int.reduceSub, Int.reduceMul, Int.reduceNeg]
theorem size_e (a : Int) (h0 : 0 ≤ a) (h1 : a < 18446744073709551616) (h : Heap) : callEL PE 15 [i64 a] h = some (.val (u64 a) h fp0) := by
  have := size_c a
  rw [if_neg (by omega), wrapU a h0 h1] at this
  exact call_ret (E := PE) (f := 15) rfl rfl rfl this (fun _ => rfl) rfl

theorem iand32 (n : Int) (h0 : 0 ≤ n) (h1 : n < 4294967296) : iand .u64 n 4294967295 = n := by
  unfold iand
  have h2 : (BitVec.ofInt 64 n &&& BitVec.ofInt 64 4294967295).toNat = n.toNat := by
    rw [BitVec.toNat_and]
    have e1 : (BitVec.ofInt 64 n).toNat = n.toNat := by
      simp only [BitVec.toNat_ofInt]
      omega
    have e2 : (BitVec.ofInt 64 4294967295).toNat = 2 ^ 32 - 1 := by rfl
    rw [e1, e2, Nat.and_two_pow_sub_one_eq_mod]
    omega
  show IntKind.u64.wrap ((BitVec.ofInt 64 n &&& BitVec.ofInt 64 4294967295).toNat : Int) = n
  rw [h2, wrapU _ (by omega) (by omega)]
  omega

theorem mul64_c (x : Int) (h0 : 0 ≤ x) (h1 : x < 67108864) : retOf (callL PE 14 [u64 x, u64 65536] []) = some (.ret (.tup [u64 0, u64 (x * 65536)])) := by
  rw [cu14]
  conv in codeOf _ => simp only [codeOf, Try.f14]
  simp only [tb14, RR, RC, FF, pext, gd, noDef, kindOf, sl1, allocs, isLit, ↓br_i, ↓reduceIte, reduceCtorEq, List.replicate, decide_eq_true_eq, decide_eq_false_iff_not, decide_true, decide_false, beq_self_eq_true, if_true, if_false, ite_not, Nat.le_refl, Int.cast_ofNat_Int, Nat.reduceAdd, Nat.reduceMul, Nat.reduceDiv, Nat.reduceMod, Nat.reduceSub, Nat.reduceEqDiff, Nat.reduceLT, Nat.reduceLeDiff, Nat.reduceBeqDiff, Int.reduceLT, Int.reduceLE, Int.reduceEq, Int.reduceToNat, Int.reduceAdd, Int.reduceSub, Int.reduceMul, Int.reduceNeg]
  have e1 : min 32 IntKind.u64.bits = 32 := rfl
  have p : (2 : Int) ^ 32 = 4294967296 := rfl
  rw [e1, p]
  simp only [fdiv_pos _ 4294967296 (by omega)]
  rw [iand32 x h0 (by omega), iand32 65536 (by omega) (by omega)]
  have d1 : x / 4294967296 = 0 := by omega
  have d2 : (65536 : Int) / 4294967296 = 0 := by omega
  rw [d1, d2]
  simp only [Int.zero_mul, Int.mul_zero]
  rw [wrapU (x * 65536) (by omega) (by omega), wrapU 0 (by omega) (by omega)]
  simp only [Int.zero_add, Int.add_zero]
  rw [wrapU (x * 65536 / 4294967296) (by omega) (by omega), iand32 _ (by omega) (by omega)]
  have d3 : x * 65536 / 4294967296 / 4294967296 = 0 := by omega
  rw [d3, wrapU (x * 65536 / 4294967296) (by omega) (by omega), d3]
  rfl
theorem mul64_e (x : Int) (h0 : 0 ≤ x) (h1 : x < 67108864) (h : Heap) : callEL PE 14 [u64 x, u64 65536] h = some (.val (.tup [u64 0, u64 (x * 65536)]) h fp0) :=
  call_ret (E := PE) (f := 14) rfl rfl rfl (mul64_c x h0 h1) (fun _ => rfl) rfl

theorem below_c (a b c : Int) (ha : ¬ a < 0) (hb : ¬ b < 0) (hc : ¬ c < 0) : callL PE 16 [.ptr 0 0 0 0, .ptr 1 0 0 0, .ptr 2 0 0 0] [.arr 0 true 1 [] [[i64 a]], .arr 0 true 1 [] [[i64 b]], .arr 0 true 1 [] [[i64 c]]] =
    some (.ret (bl false), [.arr 0 true 1 [] [[i64 a]], .arr 0 true 1 [] [[i64 b]], .arr 0 true 1 [] [[i64 c]]]) := by
  rw [cu16]
  conv in codeOf _ => simp only [codeOf, Try.f16]
  simp only [tb16, ha, hb, hc, bne_self_eq_false, RR, RC, FF, pext, gd, noDef, kindOf, sl1, allocs, isLit, ↓br_i, ↓reduceIte, reduceCtorEq, List.replicate, decide_eq_true_eq, decide_eq_false_iff_not, decide_true, decide_false, beq_self_eq_true, if_true, if_false, ite_not, Nat.le_refl, Int.cast_ofNat_Int, Nat.reduceAdd, Nat.reduceMul, Nat.reduceDiv, Nat.reduceMod, Nat.reduceSub, Nat.reduceEqDiff, Nat.reduceLT, Nat.reduceLeDiff, Nat.reduceBeqDiff, Int.reduceLT, Int.reduceLE, Int.reduceEq, Int.reduceToNat, Int.reduceAdd, Int.reduceSub, Int.reduceMul, Int.reduceNeg]
theorem div64_c (lo y : Int) (hy : ¬ y = 0) (hy2 : ¬ y ≤ 0) : retOf (callL PE 17 [u64 0, u64 lo, u64 y] []) = some (.ret (.tup [u64 (IntKind.u64.wrap (lo.tdiv y)), u64 (lo.tmod y)])) := by
  rw [cu17]
  conv in codeOf _ => simp only [codeOf, Try.f17]
  simp only [tb17, hy, hy2, RR, RC, FF, pext, gd, noDef, kindOf, sl1, allocs, isLit, ↓br_i, ↓reduceIte, reduceCtorEq, List.replicate, decide_eq_true_eq, decide_eq_false_iff_not, decide_true, decide_false, beq_self_eq_true, if_true, if_false, ite_not, Nat.le_refl, Int.cast_ofNat_Int, Nat.reduceAdd, Nat.reduceMul, Nat.reduceDiv, Nat.reduceMod, Nat.reduceSub, Nat.reduceEqDiff, Nat.reduceLT, Nat.reduceLeDiff, Nat.reduceBeqDiff, Int.reduceLT, Int.reduceLE, Int.reduceEq, Int.reduceToNat, Int.reduceAdd, Int.reduceSub, Int.reduceMul, Int.reduceNeg]
  rw [g_dops_nil]
  · simp only [tb17, hy, hy2, RR, RC, FF, pext, gd, noDef, kindOf, sl1, allocs, isLit, ↓br_i, ↓reduceIte, reduceCtorEq, List.replicate, decide_eq_true_eq, decide_eq_false_iff_not, decide_true, decide_false, beq_self_eq_true, if_true, if_false, ite_not, Nat.le_refl, Int.cast_ofNat_Int, Nat.reduceAdd, Nat.reduceMul, Nat.reduceDiv, Nat.reduceMod, Nat.reduceSub, Nat.reduceEqDiff, Nat.reduceLT, Nat.reduceLeDiff, Nat.reduceBeqDiff, Int.reduceLT, Int.reduceLE, Int.reduceEq, Int.reduceToNat, Int.reduceAdd, Int.reduceSub, Int.reduceMul, Int.reduceNeg]
  · kernel_rfl
theorem div64_e (lo y : Int) (hy2 : ¬ y ≤ 0) (h : Heap) : callEL PE 17 [u64 0, u64 lo, u64 y] h = some (.val (.tup [u64 (IntKind.u64.wrap (lo.tdiv y)), u64 (lo.tmod y)]) h fp0) :=
  call_ret (E := PE) (f := 17) rfl rfl rfl (div64_c lo y (by omega) hy2) (fun _ => rfl) rfl

theorem muldiv_c (a c : Int) (h0 : 0 ≤ a) (h1 : a < c) (h2 : c ≤ 67108864) : retOf (callL PE 13 [i64 a, i64 65536, i64 c] []) = some (.ret (.tup [i64 (a * 65536 / c), i64 0])) := by
  have s1 := size_e a h0 (by omega)
  have s2 := size_e 65536 (by omega) (by omega)
  have s3 := size_e c (by omega) (by omega)
  have m1 := mul64_e a h0 (by omega)
  have c0 : ¬ c = 0 := by omega
  have c1 : ¬ c ≤ 0 := by omega
  have d1 := fun h => div64_e (a * 65536) c c1 h
  have bc := below_c a 65536 c (by omega) (by omega) (by omega)
  have cq := callEL_eq PE 16
  rw [cu13]
  conv in codeOf _ => simp only [codeOf, Try.f13]
  simp only [tb13, s1, s2, s3, m1, c0, c1, d1, RR, RC, FF, pext, gd, noDef, kindOf, sl1, allocs, isLit, ↓br_i, ↓reduceIte, reduceCtorEq, List.replicate, decide_eq_true_eq, decide_eq_false_iff_not, decide_true, decide_false, beq_self_eq_true, if_true, if_false, ite_not, Nat.le_refl, Int.cast_ofNat_Int, Nat.reduceAdd, Nat.reduceMul, Nat.reduceDiv, Nat.reduceMod, Nat.reduceSub, Nat.reduceEqDiff, Nat.reduceLT, Nat.reduceLeDiff, Nat.reduceBeqDiff, Int.reduceLT, Int.reduceLE, Int.reduceEq, Int.reduceToNat, Int.reduceAdd, Int.reduceSub, Int.reduceMul, Int.reduceNeg]
  rw [g_dops_nil]
  rotate_left
  · kernel_rfl
  simp only [tb13, s1, s2, s3, m1, c0, c1, d1, bc, cq, pw16, nth_eq, callBy, inOf, meets, allLt, memFor, roReg, back, outOf, outRefs, keeps, freezeOut, freeze1, sameVer, backTo, wroteBack, writeBack, markRo, marksOf, outσ, baseOf, ifWr, getD0, hasSl, hasSlL, regRefs, List.range, List.range.loop, List.filter, List.map, slRefs, slRefsL, List.isEmpty, mem, RR, RC, FF, pext, gd, noDef, kindOf, sl1, allocs, isLit, ↓br_i, ↓reduceIte, reduceCtorEq, List.replicate, decide_eq_true_eq, decide_eq_false_iff_not, decide_true, decide_false, beq_self_eq_true, if_true, if_false, ite_not, Nat.le_refl, Int.cast_ofNat_Int, Nat.reduceAdd, Nat.reduceMul, Nat.reduceDiv, Nat.reduceMod, Nat.reduceSub, Nat.reduceEqDiff, Nat.reduceLT, Nat.reduceLeDiff, Nat.reduceBeqDiff, Int.reduceLT, Int.reduceLE, Int.reduceEq, Int.reduceToNat, Int.reduceAdd, Int.reduceSub, Int.reduceMul, Int.reduceNeg]
  have q0 : 0 ≤ a * 65536 / c := Int.ediv_nonneg (by omega) (by omega)
  have q1 : a * 65536 / c < 65536 := Int.ediv_lt_of_lt_mul (by omega) (by omega)
  have q2 : (a * 65536).tdiv c = a * 65536 / c := Int.tdiv_eq_ediv_of_nonneg (by omega)
  rw [q2]
  rw [wrapU (a * 65536 / c) q0 (by omega)]
  split
  · omega
  · simp only [tb13, RR, RC, FF, pext, gd, noDef, kindOf, sl1, allocs, isLit, ↓br_i, ↓reduceIte, reduceCtorEq, List.replicate, decide_eq_true_eq, decide_eq_false_iff_not, decide_true, decide_false, beq_self_eq_true, if_true, if_false, ite_not, Nat.le_refl, Int.cast_ofNat_Int, Nat.reduceAdd, Nat.reduceMul, Nat.reduceDiv, Nat.reduceMod, Nat.reduceSub, Nat.reduceEqDiff, Nat.reduceLT, Nat.reduceLeDiff, Nat.reduceBeqDiff, Int.reduceLT, Int.reduceLE, Int.reduceEq, Int.reduceToNat, Int.reduceAdd, Int.reduceSub, Int.reduceMul, Int.reduceNeg]
    rw [wrapI (a * 65536 / c) (by omega) (by omega)]
theorem muldiv_e (a c : Int) (h0 : 0 ≤ a) (h1 : a < c) (h2 : c ≤ 67108864) (h : Heap) : callEL PE 13 [i64 a, i64 65536, i64 c] h = some (.val (.tup [i64 (a * 65536 / c), i64 0]) h fp0) :=
  call_ret (E := PE) (f := 13) rfl rfl rfl (muldiv_c a c h0 h1 h2) (fun _ => rfl) rfl

/-- The scale's value does not matter: there is one. -/
theorem scale_c (a c : Int) (h0 : 0 ≤ a) (hc : 0 ≤ c) (h1 : a ≤ 1099511627776) (h2 : c ≤ 67108864) : ∃ s, retOf (callL PE 10 [i64 a, i64 c] []) = some (.ret (.tup [i64 s, i64 0])) := by
  have w1 : wi a 1099511627776 = true := by simp [wi]; omega
  have w2 : wi c 1099511627776 = true := by simp [wi]; omega
  by_cases hx : c ≤ a
  · refine ⟨65536, ?_⟩
    rw [cu10]
    conv in codeOf _ => simp only [codeOf, Try.f10]
    simp only [tb10, within_e, w1, w2, hx, RR, RC, FF, pext, gd, noDef, kindOf, sl1, allocs, isLit, ↓br_i, ↓reduceIte, reduceCtorEq, List.replicate, decide_eq_true_eq, decide_eq_false_iff_not, decide_true, decide_false, beq_self_eq_true, if_true, if_false, ite_not, Nat.le_refl, Int.cast_ofNat_Int, Nat.reduceAdd, Nat.reduceMul, Nat.reduceDiv, Nat.reduceMod, Nat.reduceSub, Nat.reduceEqDiff, Nat.reduceLT, Nat.reduceLeDiff, Nat.reduceBeqDiff, Int.reduceLT, Int.reduceLE, Int.reduceEq, Int.reduceToNat, Int.reduceAdd, Int.reduceSub, Int.reduceMul, Int.reduceNeg]
  · refine ⟨a * 65536 / c, ?_⟩
    have m := muldiv_e a c h0 (by omega) h2
    have v1 : IntKind.i64.wrap a = a := wrapI a (by omega) (by omega)
    have v2 : IntKind.i64.wrap c = c := wrapI c (by omega) (by omega)
    rw [cu10]
    conv in codeOf _ => simp only [codeOf, Try.f10]
    simp only [tb10, within_e, w1, w2, hx, m, v1, v2, RR, RC, FF, pext, gd, noDef, kindOf, sl1, allocs, isLit, ↓br_i, ↓reduceIte, reduceCtorEq, List.replicate, decide_eq_true_eq, decide_eq_false_iff_not, decide_true, decide_false, beq_self_eq_true, if_true, if_false, ite_not, Nat.le_refl, Int.cast_ofNat_Int, Nat.reduceAdd, Nat.reduceMul, Nat.reduceDiv, Nat.reduceMod, Nat.reduceSub, Nat.reduceEqDiff, Nat.reduceLT, Nat.reduceLeDiff, Nat.reduceBeqDiff, Int.reduceLT, Int.reduceLE, Int.reduceEq, Int.reduceToNat, Int.reduceAdd, Int.reduceSub, Int.reduceMul, Int.reduceNeg]
    try (rw [g_dops_nil]; rotate_left; kernel_rfl; simp only [tb10, within_e, w1, w2, hx, m, v1, v2, RR, RC, FF, pext, gd, noDef, kindOf, sl1, allocs, isLit, ↓br_i, ↓reduceIte, reduceCtorEq, List.replicate, decide_eq_true_eq, decide_eq_false_iff_not, decide_true, decide_false, beq_self_eq_true, if_true, if_false, ite_not, Nat.le_refl, Int.cast_ofNat_Int, Nat.reduceAdd, Nat.reduceMul, Nat.reduceDiv, Nat.reduceMod, Nat.reduceSub, Nat.reduceEqDiff, Nat.reduceLT, Nat.reduceLeDiff, Nat.reduceBeqDiff, Int.reduceLT, Int.reduceLE, Int.reduceEq, Int.reduceToNat, Int.reduceAdd, Int.reduceSub, Int.reduceMul, Int.reduceNeg])
theorem scale_e (a c : Int) (h0 : 0 ≤ a) (hc : 0 ≤ c) (h1 : a ≤ 1099511627776) (h2 : c ≤ 67108864) : ∃ s, ∀ h, callEL PE 10 [i64 a, i64 c] h = some (.val (.tup [i64 s, i64 0]) h fp0) := by
  obtain ⟨s, hs⟩ := scale_c a c h0 hc h1 h2
  exact ⟨s, fun h => call_ret (E := PE) (f := 10) rfl rfl rfl hs (fun _ => rfl) rfl⟩
end Go.AM
