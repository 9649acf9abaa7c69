/- A speed's bytes, written, in the machine; under the speed's bounds. -/
import Derived.Test.YtnehdpiiijbhhaaKW3
set_option autoImplicit false
set_option maxRecDepth 100000
set_option linter.unusedSimpArgs false
set_option linter.unusedVariables false
namespace Go.AM
open Go Go.RowKit Go.Proofs

/-- One byte of a number. -/
def byt (n i : Nat) : Nat := n / 2 ^ (8 * i) % 256
theorem byt_e (n i : Nat) (hi : i < 8) : IntKind.u8.wrap ((n : Int).fdiv (2 ^ min (8 * i) IntKind.u64.bits)) = ((byt n i : Nat) : Int) := by
  have h1 : min (8 * i) IntKind.u64.bits = 8 * i := by simp [IntKind.bits]; omega
  rw [h1]
  have h2 : (n : Int).fdiv (2 ^ (8 * i)) = ((n / 2 ^ (8 * i) : Nat) : Int) := by
    have hp : (0 : Int) ≤ 2 ^ (8 * i) := by
      rw [show (2 : Int) ^ (8 * i) = ((2 ^ (8 * i) : Nat) : Int) from by simp]; exact Int.natCast_nonneg _
    rw [Int.fdiv_eq_ediv_of_nonneg _ hp]
    simp
  rw [h2, wrap8]
  rfl
theorem le_byt : ∀ (j v : Nat), le j v = (List.range' 0 j).map fun i => v / 256 ^ i % 256
  | 0, _ => rfl
  | j + 1, v => by
    rw [le, le_byt j (v / 256), List.range'_succ, List.map_cons]
    congr 1
    · rw [Nat.pow_zero, Nat.div_one]
    rw [List.range'_eq_map_range, List.range'_eq_map_range]
    simp only [List.map_map]
    apply List.map_congr_left
    intro i _
    simp only [Function.comp]
    rw [Nat.div_div_eq_div_mul, Nat.zero_add, Nat.zero_add, Nat.add_comm 1 i, Nat.pow_succ, Nat.mul_comm]
theorem byt_le (n : Nat) : (List.range' 0 8).map (byt n) = le 8 n := by
  rw [le_byt]
  apply List.map_congr_left
  intro i _
  simp only [byt]
  rw [Nat.pow_mul]
def tq26 (n : Nat) (i : Nat) : List (Nat × AV) := [(0, .ptr 0 0 0 0), (6, u64 n), (15, i64 i)]
theorem round26 (n ver : Nat) (l : List Nat) (hl : l.length ≤ 90000) (i : Nat) (hi : i < 8) (cd : Code) (hb : cd = lp26x0) :
    loopL KE cd 2 (T.of (tq26 n 0)) ⟨T.of (tq26 n i), wH ver l, [], KE.keep 26⟩ = loopL KE cd 2 (T.of (tq26 n 0)) ⟨T.of (tq26 n (i + 1)), wH (ver + 1) (l ++ [byt n i]), [], KE.keep 26⟩ := by
  subst hb
  have i1 : (i : Int) < 8 := by omega
  have i2 : IntKind.i64.wrap (8 * (i : Int)) = ((8 * i : Nat) : Int) := by rw [wrapI _ (by omega) (by omega)]; omega
  have i3 : ((8 * i : Nat) : Int).toNat = 8 * i := by omega
  have i5 : ¬ ((8 * i : Nat) : Int) < 0 := by omega
  have i4 := wrapN i (by omega)
  have e1 := byt_e n i hi
  have r1 := room53 (l.length + 1) (by omega)
  have htk := tk_all (bt l) l.length (bt_len l)
  have hbl := bt_len l
  have ha : bt (l ++ [byt n i]) = bt l ++ [[u8 (byt n i)]] := bt_app _ _
  have hb : (l ++ [byt n i]).length = l.length + 1 := by simp
  simp only [wH, ha, hb]
  rw [loopL_go]
  conv in (goX _ _ _ _) => rw [show lp26x0 = _ from by simp only [lp26x0, subC, codeOf, Try.f26]; rfl]
  simp only [tb26, tq26, nck, i1, i2, i3, i4, i5, e1, r1, htk, hbl, RR, RC, FF, gd, noDef, kindOf, sl1, allocs, isLit, ↓br_i, ↓reduceIte, reduceCtorEq, List.replicate, decide_eq_true_eq, decide_eq_false_iff_not, decide_true, decide_false, beq_self_eq_true, if_true, if_false, ite_not, Nat.le_refl, Int.cast_ofNat_Int, Nat.reduceAdd, Nat.reduceMul, Nat.reduceDiv, Nat.reduceMod, Nat.reduceSub, Nat.reduceEqDiff, Nat.reduceLT, Nat.reduceLeDiff, Nat.reduceBeqDiff, Int.reduceLT, Int.reduceLE, Int.reduceEq, Int.reduceToNat, Int.reduceAdd, Int.reduceSub, Int.reduceMul, Int.reduceNeg]
  rw [g_dops_nil]
  rotate_left
  · kernel_rfl
  simp only [tb26, tq26, nck, i1, i2, i3, i4, i5, e1, r1, htk, hbl, RR, RC, FF, gd, noDef, kindOf, sl1, allocs, isLit, ↓br_i, ↓reduceIte, reduceCtorEq, List.replicate, decide_eq_true_eq, decide_eq_false_iff_not, decide_true, decide_false, beq_self_eq_true, if_true, if_false, ite_not, Nat.le_refl, Int.cast_ofNat_Int, Nat.reduceAdd, Nat.reduceMul, Nat.reduceDiv, Nat.reduceMod, Nat.reduceSub, Nat.reduceEqDiff, Nat.reduceLT, Nat.reduceLeDiff, Nat.reduceBeqDiff, Int.reduceLT, Int.reduceLE, Int.reduceEq, Int.reduceToNat, Int.reduceAdd, Int.reduceSub, Int.reduceMul, Int.reduceNeg]
theorem round26e (n ver : Nat) (l : List Nat) (cd : Code) (hb : cd = lp26x0) :
    loopL KE cd 2 (T.of (tq26 n 0)) ⟨T.of (tq26 n 8), wH ver l, [], KE.keep 26⟩ = some (.exit 0, ⟨T.of (tq26 n 8 ++ [(16, bl false)]), wH ver l, [], KE.keep 26⟩) := by
  subst hb
  have i1 : ((8 : Nat) : Int) = 8 := rfl
  have i2 : ¬ (8 : Int) < 8 := by omega
  simp only [wH]
  rw [loopL_go]
  conv in (goX _ _ _ _) => rw [show lp26x0 = _ from by simp only [lp26x0, subC, codeOf, Try.f26]; rfl]
  simp only [tb26, tq26, i1, i2, RR, RC, FF, gd, noDef, kindOf, sl1, allocs, isLit, ↓br_i, ↓reduceIte, reduceCtorEq, List.replicate, decide_eq_true_eq, decide_eq_false_iff_not, decide_true, decide_false, beq_self_eq_true, if_true, if_false, ite_not, Nat.le_refl, Int.cast_ofNat_Int, Nat.reduceAdd, Nat.reduceMul, Nat.reduceDiv, Nat.reduceMod, Nat.reduceSub, Nat.reduceEqDiff, Nat.reduceLT, Nat.reduceLeDiff, Nat.reduceBeqDiff, Int.reduceLT, Int.reduceLE, Int.reduceEq, Int.reduceToNat, Int.reduceAdd, Int.reduceSub, Int.reduceMul, Int.reduceNeg]
theorem loop26 (n : Nat) (cd : Code) (hb : cd = lp26x0) : ∀ (j i ver : Nat) (l : List Nat), l.length + j ≤ 90000 → i + j = 8 →
    loopL KE cd 2 (T.of (tq26 n 0)) ⟨T.of (tq26 n i), wH ver l, [], KE.keep 26⟩ = some (.exit 0, ⟨T.of (tq26 n 8 ++ [(16, bl false)]), wH (ver + j) (l ++ (List.range' i j).map (byt n)), [], KE.keep 26⟩) := by
  intro j
  induction j with
  | zero =>
    intro i ver l hl hn
    obtain rfl : i = 8 := by omega
    rw [round26e n ver l cd hb]
    simp
  | succ j ih =>
    intro i ver l hl hn
    rw [round26 n ver l (by omega) i (by omega) cd hb, ih (i + 1) (ver + 1) (l ++ [byt n i]) (by simp; omega) (by omega), List.range'_succ]
    simp only [List.map_cons, List.append_assoc, List.singleton_append, Nat.add_assoc, Nat.add_comm 1 j]
theorem f64bits_e (b : Nat) (h : Heap) : callEL KE 38 [f64 b] h = some (.val (u64 b) h fp0) := by
  rw [callEL_eq]
  rfl
theorem speed_c (v : Int) (h0 : 0 ≤ v) (h1 : v ≤ 262144) (ver : Nat) (l : List Nat) (hl : l.length ≤ 80000) :
    callL KE 26 [.ptr 0 0 0 0, i64 v] (wH ver l) = some (.ret (.tup []), wH (ver + 8) (l ++ le 8 (flB v))) := by
  have k := loop26 (flB v) lp26x0 rfl 8 0 ver l (by omega) (by omega)
  have c1 := to_e v h0 h1
  rw [byt_le] at k
  generalize hw : wH (ver + 8) (l ++ le 8 (flB v)) = w' at *
  simp only [wH] at k ⊢
  simp only [tq26, RR, RC, FF, gd, noDef, kindOf, sl1, allocs, isLit, ↓br_i, ↓reduceIte, reduceCtorEq, List.replicate, decide_eq_true_eq, decide_eq_false_iff_not, decide_true, decide_false, beq_self_eq_true, if_true, if_false, ite_not, Nat.le_refl, Int.cast_ofNat_Int, Nat.reduceAdd, Nat.reduceMul, Nat.reduceDiv, Nat.reduceMod, Nat.reduceSub, Nat.reduceEqDiff, Nat.reduceLT, Nat.reduceLeDiff, Nat.reduceBeqDiff, Int.reduceLT, Int.reduceLE, Int.reduceEq, Int.reduceToNat, Int.reduceAdd, Int.reduceSub, Int.reduceMul, Int.reduceNeg] at k
  conv at k in lp26x0 => simp only [lp26x0, subC, codeOf, Try.f26]
  rw [cu26]
  conv in codeOf _ => simp only [codeOf, Try.f26]
  simp only [tb26, c1, f64bits_e, RR, RC, FF, gd, noDef, kindOf, sl1, allocs, isLit, ↓br_i, ↓reduceIte, reduceCtorEq, List.replicate, decide_eq_true_eq, decide_eq_false_iff_not, decide_true, decide_false, beq_self_eq_true, if_true, if_false, ite_not, Nat.le_refl, Int.cast_ofNat_Int, Nat.reduceAdd, Nat.reduceMul, Nat.reduceDiv, Nat.reduceMod, Nat.reduceSub, Nat.reduceEqDiff, Nat.reduceLT, Nat.reduceLeDiff, Nat.reduceBeqDiff, Int.reduceLT, Int.reduceLE, Int.reduceEq, Int.reduceToNat, Int.reduceAdd, Int.reduceSub, Int.reduceMul, Int.reduceNeg]
  rw [k]
  simp only [tb26, RR, RC, FF, gd, noDef, kindOf, sl1, allocs, isLit, ↓br_i, ↓reduceIte, reduceCtorEq, List.replicate, decide_eq_true_eq, decide_eq_false_iff_not, decide_true, decide_false, beq_self_eq_true, if_true, if_false, ite_not, Nat.le_refl, Int.cast_ofNat_Int, Nat.reduceAdd, Nat.reduceMul, Nat.reduceDiv, Nat.reduceMod, Nat.reduceSub, Nat.reduceEqDiff, Nat.reduceLT, Nat.reduceLeDiff, Nat.reduceBeqDiff, Int.reduceLT, Int.reduceLE, Int.reduceEq, Int.reduceToNat, Int.reduceAdd, Int.reduceSub, Int.reduceMul, Int.reduceNeg]
end Go.AM
