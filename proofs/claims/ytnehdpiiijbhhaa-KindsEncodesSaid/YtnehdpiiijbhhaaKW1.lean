/- A speed as a float's bits, in the machine: the program's and the reference's are the same; for a speed that may be. -/
import Derived.Test.YtnehdpiiijbhhaaKV
import Derived.Test.YtnehdpiiijbhhaaKG
set_option autoImplicit false
set_option maxRecDepth 100000
set_option linter.unusedSimpArgs false
namespace Go.AM
open Go Go.RowKit Go.Proofs

abbrev f64 (n : Nat) : AV := .v (.float .f64 n)
abbrev u64 (n : Int) : AV := .v (.int .u64 n)
theorem und2 : KE.P.underlying 2 = some (.int .i64) := by kernel_rfl
theorem und75 : KE.P.underlying 75 = some (.float .f64) := by kernel_rfl
theorem cv_f (h : Heap) (v : Int) : convAV KE.P h 2 75 (i64 v) = some (f64 (FloatKind.f64.nearest v)) := by
  unfold convAV
  rw [und2, und75]
theorem quo_f (l : Bool) (a b r : Nat) (h : Ieee.double.div a b = some r) : binAV KE.P KE.eqT l .quo 75 (f64 a) (f64 b) = some (f64 r) := by
  show mkV (pureRun KE.P (binOp .quo 75 (.float .f64 a) (.float .f64 b))) = _
  have : pureRun KE.P (binOp .quo 75 (.float .f64 a) (.float .f64 b)) = some (.float .f64 r) := by
    unfold pureRun
    simp only [binOp, Op.floatArith, FloatKind.format, h]
    rfl
  rw [this]
  rfl
/-- A speed's float, in bits. -/
def flB (v : Int) : Nat := if v = 0 then 0 else (1006 + v.toNat.log2) * 4503599627370496 + v.toNat * 2 ^ (52 - v.toNat.log2)
theorem to_c (v : Int) (h0 : 0 ≤ v) (h1 : v ≤ 262144) : retOf (callL KE 37 [i64 v] []) = some (.ret (.tup [f64 (flB v), i64 0])) := by
  have c1 : ¬ v < -70368744177664 := by omega
  have c2 : ¬ 70368744177664 ≤ v := by omega
  have hd : Ieee.double.div (FloatKind.f64.nearest v) 4679240012837945344 = some (flB v) := by
    by_cases hz : v = 0
    · subst hz; decide
    · have hn : v.toNat ≠ 0 := by omega
      have e : v = (v.toNat : Int) := by omega
      have l1 : 2 ^ v.toNat.log2 ≤ v.toNat := Nat.log2_self_le hn
      have l2 : v.toNat < 2 ^ (v.toNat.log2 + 1) := Nat.lt_log2_self
      have l3 : v.toNat.log2 ≤ 20 := by
        have : v.toNat.log2 < 20 := (Nat.log2_lt hn).2 (by omega)
        omega
      have := div_exact v.toNat v.toNat.log2 l3 l1 l2
      rw [flB, if_neg hz, ← this, ← e]
  have hq := fun l => quo_f l _ _ _ hd
  rw [cu37]
  conv in codeOf _ => simp only [codeOf, Try.f37]
  simp only [tb37, c1, c2, cv_f, hq, RR, RC, FF, gd, noDef, kindOf, sl1, allocs, isLit, ↓br_i, ↓reduceIte, reduceCtorEq, List.replicate, decide_eq_true_eq, decide_eq_false_iff_not, decide_true, decide_false, beq_self_eq_true, if_true, if_false, ite_not, Nat.le_refl, Int.cast_ofNat_Int, Nat.reduceAdd, Nat.reduceMul, Nat.reduceDiv, Nat.reduceMod, Nat.reduceSub, Nat.reduceEqDiff, Nat.reduceLT, Nat.reduceLeDiff, Nat.reduceBeqDiff, Int.reduceLT, Int.reduceLE, Int.reduceEq, Int.reduceToNat, Int.reduceAdd, Int.reduceSub, Int.reduceMul, Int.reduceNeg]
theorem to_e (v : Int) (h0 : 0 ≤ v) (h1 : v ≤ 262144) (h : Heap) : callEL KE 37 [i64 v] h = some (.val (.tup [f64 (flB v), i64 0]) h fp0) :=
  call_ret (E := KE) (f := 37) rfl rfl rfl (to_c v h0 h1) (fun _ => rfl) rfl
def tq28 (e m : Int) : List (Nat × AV) := [(3, u64 e), (4, u64 m)]
theorem round28 (e m e0 m0 : Int) (h0 : 0 < m) (h1 : m < 4503599627370496) (h2 : 1 ≤ e) (h3 : e ≤ 2000) (cd : Code) (hb : cd = lp28x0) :
    loopL KE cd 0 (T.of (tq28 e0 m0)) ⟨T.of (tq28 e m), [], [], KE.keep 28⟩ = loopL KE cd 0 (T.of (tq28 e0 m0)) ⟨T.of (tq28 (e - 1) (m * 2)), [], [], KE.keep 28⟩ := by
  subst hb
  have w1 := wrapU (m * 2) (by omega) (by omega)
  have w2 := wrapU (e - 1) (by omega) (by omega)
  rw [loopL_go]
  conv in (goX _ _ _ _) => rw [show lp28x0 = _ from by simp only [lp28x0, subC, codeOf, Try.f28]; rfl]
  simp only [tb28, tq28, h1, w1, w2, RR, RC, FF, gd, noDef, kindOf, sl1, allocs, isLit, ↓br_i, ↓reduceIte, reduceCtorEq, List.replicate, decide_eq_true_eq, decide_eq_false_iff_not, decide_true, decide_false, beq_self_eq_true, if_true, if_false, ite_not, Nat.le_refl, Int.cast_ofNat_Int, Nat.reduceAdd, Nat.reduceMul, Nat.reduceDiv, Nat.reduceMod, Nat.reduceSub, Nat.reduceEqDiff, Nat.reduceLT, Nat.reduceLeDiff, Nat.reduceBeqDiff, Int.reduceLT, Int.reduceLE, Int.reduceEq, Int.reduceToNat, Int.reduceAdd, Int.reduceSub, Int.reduceMul, Int.reduceNeg]
theorem round28e (e m e0 m0 : Int) (h1 : ¬ m < 4503599627370496) (cd : Code) (hb : cd = lp28x0) :
    loopL KE cd 0 (T.of (tq28 e0 m0)) ⟨T.of (tq28 e m), [], [], KE.keep 28⟩ = some (.exit 0, ⟨T.of (tq28 e m ++ [(10, bl false)]), [], [], KE.keep 28⟩) := by
  subst hb
  rw [loopL_go]
  conv in (goX _ _ _ _) => rw [show lp28x0 = _ from by simp only [lp28x0, subC, codeOf, Try.f28]; rfl]
  simp only [tb28, tq28, h1, RR, RC, FF, gd, noDef, kindOf, sl1, allocs, isLit, ↓br_i, ↓reduceIte, reduceCtorEq, List.replicate, decide_eq_true_eq, decide_eq_false_iff_not, decide_true, decide_false, beq_self_eq_true, if_true, if_false, ite_not, Nat.le_refl, Int.cast_ofNat_Int, Nat.reduceAdd, Nat.reduceMul, Nat.reduceDiv, Nat.reduceMod, Nat.reduceSub, Nat.reduceEqDiff, Nat.reduceLT, Nat.reduceLeDiff, Nat.reduceBeqDiff, Int.reduceLT, Int.reduceLE, Int.reduceEq, Int.reduceToNat, Int.reduceAdd, Int.reduceSub, Int.reduceMul, Int.reduceNeg]
theorem pow_one_le (j : Nat) : (1 : Int) ≤ 2 ^ j := by
  rw [show (2 : Int) ^ j = ((2 ^ j : Nat) : Int) from by simp]
  have := Nat.two_pow_pos j
  omega
theorem loop28 (e0 m0 : Int) (cd : Code) (hb : cd = lp28x0) : ∀ (j : Nat) (m e : Int), 0 < m → 4503599627370496 ≤ m * 2 ^ j → m * 2 ^ j < 9007199254740992 → (j : Int) ≤ e → e ≤ 2000 →
    loopL KE cd 0 (T.of (tq28 e0 m0)) ⟨T.of (tq28 e m), [], [], KE.keep 28⟩ = some (.exit 0, ⟨T.of (tq28 (e - j) (m * 2 ^ j) ++ [(10, bl false)]), [], [], KE.keep 28⟩) := by
  intro j
  induction j with
  | zero =>
    intro m e hm a b he he'
    rw [round28e e m e0 m0 (by omega) cd hb]
    simp
  | succ j ih =>
    intro m e hm a b he he'
    have p : (2 : Int) ^ (j + 1) = 2 * 2 ^ j := by rw [Int.pow_succ, Int.mul_comm]
    have p1 := pow_one_le j
    rw [p, ← Int.mul_assoc] at a b ⊢
    have hle : m * 2 * 1 ≤ m * 2 * 2 ^ j := Int.mul_le_mul_of_nonneg_left p1 (by omega)
    rw [round28 e m e0 m0 hm (by omega) (by omega) he' cd hb, ih (m * 2) (e - 1) (by omega) a b (by omega) (by omega)]
    have : e - 1 - (j : Int) = e - ((j + 1 : Nat) : Int) := by omega
    rw [this]
theorem float_c (v : Int) (h0 : 0 ≤ v) (h1 : v ≤ 262144) : retOf (callL KE 28 [i64 v] []) = some (.ret (u64 (flB v))) := by
  by_cases c : v = 0
  · rw [cu28]
    conv in codeOf _ => simp only [codeOf, Try.f28]
    have hf : flB v = 0 := by rw [flB, if_pos c]
    rw [hf]
    simp only [tb28, c, RR, RC, FF, gd, noDef, kindOf, sl1, allocs, isLit, ↓br_i, ↓reduceIte, reduceCtorEq, List.replicate, decide_eq_true_eq, decide_eq_false_iff_not, decide_true, decide_false, beq_self_eq_true, if_true, if_false, ite_not, Nat.le_refl, Int.cast_ofNat_Int, Nat.reduceAdd, Nat.reduceMul, Nat.reduceDiv, Nat.reduceMod, Nat.reduceSub, Nat.reduceEqDiff, Nat.reduceLT, Nat.reduceLeDiff, Nat.reduceBeqDiff, Int.reduceLT, Int.reduceLE, Int.reduceEq, Int.reduceToNat, Int.reduceAdd, Int.reduceSub, Int.reduceMul, Int.reduceNeg]
  · have hn : v.toNat ≠ 0 := by omega
    have e : v = (v.toNat : Int) := by omega
    have l1 : 2 ^ v.toNat.log2 ≤ v.toNat := Nat.log2_self_le hn
    have l2 : v.toNat < 2 ^ (v.toNat.log2 + 1) := Nat.lt_log2_self
    have l3 : v.toNat.log2 < 20 := (Nat.log2_lt hn).2 (by omega)
    have hf : flB v = (1006 + v.toNat.log2) * 4503599627370496 + v.toNat * 2 ^ (52 - v.toNat.log2) := by rw [flB, if_neg c]
    generalize v.toNat.log2 = k at *
    generalize v.toNat = n at *
    subst e
    have hp : 2 ^ k * 2 ^ (52 - k) = 4503599627370496 := by rw [← Nat.pow_add, show k + (52 - k) = 52 by omega]
    have hp' : 2 ^ (k + 1) * 2 ^ (52 - k) = 9007199254740992 := by rw [← Nat.pow_add, show k + 1 + (52 - k) = 53 by omega]
    have V0 : 4503599627370496 ≤ n * 2 ^ (52 - k) := by rw [← hp]; exact Nat.mul_le_mul_right _ l1
    have V1 : n * 2 ^ (52 - k) < 9007199254740992 := by rw [← hp']; exact Nat.mul_lt_mul_of_pos_right l2 (Nat.two_pow_pos _)
    have hc : (n : Int) * 2 ^ (52 - k) = ((n * 2 ^ (52 - k) : Nat) : Int) := by simp
    have k1 := loop28 1059 n lp28x0 rfl (52 - k) n 1059 (by omega) (by rw [hc]; omega) (by rw [hc]; omega) (by omega) (by omega)
    rw [hc] at k1
    rw [hf]
    generalize n * 2 ^ (52 - k) = V at *
    have e1 : (1059 : Int) - ((52 - k : Nat) : Int) = ((1007 + k : Nat) : Int) := by omega
    rw [e1] at k1
    rw [cu28]
    conv in codeOf _ => simp only [codeOf, Try.f28]
    have w0 := wrapU (n : Int) (by omega) (by omega)
    simp only [tb28, c, w0, RR, RC, FF, gd, noDef, kindOf, sl1, allocs, isLit, ↓br_i, ↓reduceIte, reduceCtorEq, List.replicate, decide_eq_true_eq, decide_eq_false_iff_not, decide_true, decide_false, beq_self_eq_true, if_true, if_false, ite_not, Nat.le_refl, Int.cast_ofNat_Int, Nat.reduceAdd, Nat.reduceMul, Nat.reduceDiv, Nat.reduceMod, Nat.reduceSub, Nat.reduceEqDiff, Nat.reduceLT, Nat.reduceLeDiff, Nat.reduceBeqDiff, Int.reduceLT, Int.reduceLE, Int.reduceEq, Int.reduceToNat, Int.reduceAdd, Int.reduceSub, Int.reduceMul, Int.reduceNeg]
    simp only [tq28, RR, RC, FF, gd, noDef, kindOf, sl1, allocs, isLit, ↓br_i, ↓reduceIte, reduceCtorEq, List.replicate, decide_eq_true_eq, decide_eq_false_iff_not, decide_true, decide_false, beq_self_eq_true, if_true, if_false, ite_not, Nat.le_refl, Int.cast_ofNat_Int, Nat.reduceAdd, Nat.reduceMul, Nat.reduceDiv, Nat.reduceMod, Nat.reduceSub, Nat.reduceEqDiff, Nat.reduceLT, Nat.reduceLeDiff, Nat.reduceBeqDiff, Int.reduceLT, Int.reduceLE, Int.reduceEq, Int.reduceToNat, Int.reduceAdd, Int.reduceSub, Int.reduceMul, Int.reduceNeg] at k1
    conv at k1 in lp28x0 => simp only [lp28x0, subC, codeOf, Try.f28]
    rw [k1]
    have w1 : IntKind.u64.wrap (((1007 + k : Nat) : Int) * 2 ^ min 52 IntKind.u64.bits) = ((1007 + k : Nat) : Int) * 4503599627370496 := by
      rw [show (2 : Int) ^ min 52 IntKind.u64.bits = 4503599627370496 from rfl]; exact wrapU _ (by omega) (by omega)
    have w2 := wrapU (((1007 + k : Nat) : Int) * 4503599627370496 + (V : Int)) (by omega) (by omega)
    have w3 := wrapU (((1007 + k : Nat) : Int) * 4503599627370496 + (V : Int) - 4503599627370496) (by omega) (by omega)
    simp only [tb28, w1, w2, w3, RR, RC, FF, gd, noDef, kindOf, sl1, allocs, isLit, ↓br_i, ↓reduceIte, reduceCtorEq, List.replicate, decide_eq_true_eq, decide_eq_false_iff_not, decide_true, decide_false, beq_self_eq_true, if_true, if_false, ite_not, Nat.le_refl, Int.cast_ofNat_Int, Nat.reduceAdd, Nat.reduceMul, Nat.reduceDiv, Nat.reduceMod, Nat.reduceSub, Nat.reduceEqDiff, Nat.reduceLT, Nat.reduceLeDiff, Nat.reduceBeqDiff, Int.reduceLT, Int.reduceLE, Int.reduceEq, Int.reduceToNat, Int.reduceAdd, Int.reduceSub, Int.reduceMul, Int.reduceNeg]
    have w4 : ((1007 + k : Nat) : Int) * 4503599627370496 + (V : Int) - 4503599627370496 = (((1006 + k) * 4503599627370496 + V : Nat) : Int) := by omega
    rw [w4]
theorem float_e (v : Int) (h0 : 0 ≤ v) (h1 : v ≤ 262144) (h : Heap) : callEL KE 28 [i64 v] h = some (.val (u64 (flB v)) h fp0) :=
  call_ret (E := KE) (f := 28) rfl rfl rfl (float_c v h0 h1) (fun _ => rfl) rfl
end Go.AM
