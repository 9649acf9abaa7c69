/- The two checks, and the law's cut, in the machine; no condition. -/
import Derived.Test.YtnehdpiiijbhhaaKU
set_option autoImplicit false
set_option maxRecDepth 100000
set_option linter.unusedSimpArgs false
set_option linter.unusedVariables false
namespace Go.AM
open Go Go.RowKit Go.Proofs

theorem rng_n (n : Nat) : rng 1 16 (n : Int) = (decide (1 ≤ n) && decide (n ≤ 16)) := by
  unfold rng
  congr 1 <;> exact decide_eq_decide.2 (by omega)
def tupC (p : Int × Int) : AV := .tup [i64 p.1, i64 p.2]
theorem chk_x (ks : List Kd) (ws : List Wp) (h : ¬ (1 ≤ ks.length ∧ ks.length ≤ 16 ∧ ws.length ≤ 16)) : chk ks ws = (1, -1) := by
  unfold chk; rw [if_neg]; simp only [Bool.and_eq_true, decide_eq_true_eq]; intro h'; exact h ⟨h'.1.1, h'.1.2, h'.2⟩
theorem chk_k (ks : List Kd) (ws : List Wp) (h : 1 ≤ ks.length ∧ ks.length ≤ 16 ∧ ws.length ≤ 16) (b : Nat) (e : fb (fun k => kindOk k ws.length) ks 0 = some b) : chk ks ws = (1, (b : Int)) := by
  unfold chk; rw [if_pos (by simp only [Bool.and_eq_true, decide_eq_true_eq]; exact ⟨⟨h.1, h.2.1⟩, h.2.2⟩), e]
theorem chk_w (ks : List Kd) (ws : List Wp) (h : 1 ≤ ks.length ∧ ks.length ≤ 16 ∧ ws.length ≤ 16) (b : Nat) (e : fb (fun k => kindOk k ws.length) ks 0 = none) (e2 : fb weaponOk ws 0 = some b) : chk ks ws = (1, IntKind.i64.wrap (ks.length + (b : Nat))) := by
  unfold chk; rw [if_pos (by simp only [Bool.and_eq_true, decide_eq_true_eq]; exact ⟨⟨h.1, h.2.1⟩, h.2.2⟩), e, e2]
theorem chk_o (ks : List Kd) (ws : List Wp) (h : 1 ≤ ks.length ∧ ks.length ≤ 16 ∧ ws.length ≤ 16) (e : fb (fun k => kindOk k ws.length) ks 0 = none) (e2 : fb weaponOk ws 0 = none) : chk ks ws = (0, 0) := by
  unfold chk; rw [if_pos (by simp only [Bool.and_eq_true, decide_eq_true_eq]; exact ⟨⟨h.1, h.2.1⟩, h.2.2⟩), e, e2]
theorem check_c (f g : Bool) (ks : List Kd) (ws : List Wp) : retOf (callL KE 11 [.agg (bookA f g ks ws)] []) = some (.ret (tupC (chk ks ws))) := by
  have hlen := kl_len ks
  have hlew := wl_len ws
  rw [cu11]
  conv in codeOf _ => simp only [codeOf, Try.f11]
  by_cases c1 : 1 ≤ ks.length ∧ ks.length ≤ 16
  · by_cases c2 : (16 : Int) < (ws.length : Int)
    · rw [chk_x ks ws (by omega)]
      simp only [tb11, bookA, between_e', nums1_a, unI_n, unI_c, betw_n, betw_c, hlen, hlew, rng_n, c1, c2, tupC, RR, RC, FF, gd, noDef, kindOf, sl1, allocs, isLit, ↓br_i, ↓reduceIte, reduceCtorEq, List.replicate, decide_eq_true_eq, decide_eq_false_iff_not, decide_true, decide_false, beq_self_eq_true, if_true, if_false, ite_not, Nat.le_refl, Int.cast_ofNat_Int, Nat.reduceAdd, Nat.reduceMul, Nat.reduceDiv, Nat.reduceMod, Nat.reduceSub, Nat.reduceEqDiff, Nat.reduceLT, Nat.reduceLeDiff, Nat.reduceBeqDiff, Int.reduceLT, Int.reduceLE, Int.reduceEq, Int.reduceToNat, Int.reduceAdd, Int.reduceSub, Int.reduceMul, Int.reduceNeg]
    · have c := And.intro c1.1 (And.intro c1.2 (show ws.length ≤ 16 by omega))
      simp only [tb11, bookA, between_e', nums1_a, unI_n, unI_c, betw_n, betw_c, hlen, hlew, rng_n, c1, c2, RR, RC, FF, gd, noDef, kindOf, sl1, allocs, isLit, ↓br_i, ↓reduceIte, reduceCtorEq, List.replicate, decide_eq_true_eq, decide_eq_false_iff_not, decide_true, decide_false, beq_self_eq_true, if_true, if_false, ite_not, Nat.le_refl, Int.cast_ofNat_Int, Nat.reduceAdd, Nat.reduceMul, Nat.reduceDiv, Nat.reduceMod, Nat.reduceSub, Nat.reduceEqDiff, Nat.reduceLT, Nat.reduceLeDiff, Nat.reduceBeqDiff, Int.reduceLT, Int.reduceLE, Int.reduceEq, Int.reduceToNat, Int.reduceAdd, Int.reduceSub, Int.reduceMul, Int.reduceNeg]
      rcases loop11a f g ks ws (by omega) 0 lp11x0 rfl ks.length 0 (by omega) with ⟨k1, k⟩ | ⟨b, h, k1, k⟩
      · rw [List.drop_zero] at k1
        simp only [tq11a, bookH11, bookA, RR, RC, FF, gd, noDef, kindOf, sl1, allocs, isLit, ↓br_i, ↓reduceIte, reduceCtorEq, List.replicate, decide_eq_true_eq, decide_eq_false_iff_not, decide_true, decide_false, beq_self_eq_true, if_true, if_false, ite_not, Nat.le_refl, Int.cast_ofNat_Int, Nat.reduceAdd, Nat.reduceMul, Nat.reduceDiv, Nat.reduceMod, Nat.reduceSub, Nat.reduceEqDiff, Nat.reduceLT, Nat.reduceLeDiff, Nat.reduceBeqDiff, Int.reduceLT, Int.reduceLE, Int.reduceEq, Int.reduceToNat, Int.reduceAdd, Int.reduceSub, Int.reduceMul, Int.reduceNeg] at k
        conv at k in lp11x0 => simp only [lp11x0, subC, codeOf, Try.f11]
        rw [k]
        simp only [tb11, hlen, hlew, RR, RC, FF, gd, noDef, kindOf, sl1, allocs, isLit, ↓br_i, ↓reduceIte, reduceCtorEq, List.replicate, decide_eq_true_eq, decide_eq_false_iff_not, decide_true, decide_false, beq_self_eq_true, if_true, if_false, ite_not, Nat.le_refl, Int.cast_ofNat_Int, Nat.reduceAdd, Nat.reduceMul, Nat.reduceDiv, Nat.reduceMod, Nat.reduceSub, Nat.reduceEqDiff, Nat.reduceLT, Nat.reduceLeDiff, Nat.reduceBeqDiff, Int.reduceLT, Int.reduceLE, Int.reduceEq, Int.reduceToNat, Int.reduceAdd, Int.reduceSub, Int.reduceMul, Int.reduceNeg]
        rcases loop11b f g ks ws (by omega) 0 lp11x1 rfl ws.length 0 (by omega) with ⟨m1, k⟩ | ⟨b, h, m1, k⟩
        · rw [List.drop_zero] at m1
          simp only [tq11b, bookH11, bookA, RR, RC, FF, gd, noDef, kindOf, sl1, allocs, isLit, ↓br_i, ↓reduceIte, reduceCtorEq, List.replicate, decide_eq_true_eq, decide_eq_false_iff_not, decide_true, decide_false, beq_self_eq_true, if_true, if_false, ite_not, Nat.le_refl, Int.cast_ofNat_Int, Nat.reduceAdd, Nat.reduceMul, Nat.reduceDiv, Nat.reduceMod, Nat.reduceSub, Nat.reduceEqDiff, Nat.reduceLT, Nat.reduceLeDiff, Nat.reduceBeqDiff, Int.reduceLT, Int.reduceLE, Int.reduceEq, Int.reduceToNat, Int.reduceAdd, Int.reduceSub, Int.reduceMul, Int.reduceNeg] at k
          conv at k in lp11x1 => simp only [lp11x1, subC, codeOf, Try.f11]
          rw [k, chk_o ks ws c k1 m1]
          simp only [tb11, hlen, hlew, tupC, RR, RC, FF, gd, noDef, kindOf, sl1, allocs, isLit, ↓br_i, ↓reduceIte, reduceCtorEq, List.replicate, decide_eq_true_eq, decide_eq_false_iff_not, decide_true, decide_false, beq_self_eq_true, if_true, if_false, ite_not, Nat.le_refl, Int.cast_ofNat_Int, Nat.reduceAdd, Nat.reduceMul, Nat.reduceDiv, Nat.reduceMod, Nat.reduceSub, Nat.reduceEqDiff, Nat.reduceLT, Nat.reduceLeDiff, Nat.reduceBeqDiff, Int.reduceLT, Int.reduceLE, Int.reduceEq, Int.reduceToNat, Int.reduceAdd, Int.reduceSub, Int.reduceMul, Int.reduceNeg]
        · rw [List.drop_zero] at m1
          simp only [tq11b, bookH11, bookA, RR, RC, FF, gd, noDef, kindOf, sl1, allocs, isLit, ↓br_i, ↓reduceIte, reduceCtorEq, List.replicate, decide_eq_true_eq, decide_eq_false_iff_not, decide_true, decide_false, beq_self_eq_true, if_true, if_false, ite_not, Nat.le_refl, Int.cast_ofNat_Int, Nat.reduceAdd, Nat.reduceMul, Nat.reduceDiv, Nat.reduceMod, Nat.reduceSub, Nat.reduceEqDiff, Nat.reduceLT, Nat.reduceLeDiff, Nat.reduceBeqDiff, Int.reduceLT, Int.reduceLE, Int.reduceEq, Int.reduceToNat, Int.reduceAdd, Int.reduceSub, Int.reduceMul, Int.reduceNeg] at k
          conv at k in lp11x1 => simp only [lp11x1, subC, codeOf, Try.f11]
          rw [k, chk_w ks ws c b k1 m1]
          simp only [tb11, hlen, hlew, tupC, RR, RC, FF, gd, noDef, kindOf, sl1, allocs, isLit, ↓br_i, ↓reduceIte, reduceCtorEq, List.replicate, decide_eq_true_eq, decide_eq_false_iff_not, decide_true, decide_false, beq_self_eq_true, if_true, if_false, ite_not, Nat.le_refl, Int.cast_ofNat_Int, Nat.reduceAdd, Nat.reduceMul, Nat.reduceDiv, Nat.reduceMod, Nat.reduceSub, Nat.reduceEqDiff, Nat.reduceLT, Nat.reduceLeDiff, Nat.reduceBeqDiff, Int.reduceLT, Int.reduceLE, Int.reduceEq, Int.reduceToNat, Int.reduceAdd, Int.reduceSub, Int.reduceMul, Int.reduceNeg]
      · rw [List.drop_zero] at k1
        simp only [tq11a, bookH11, bookA, RR, RC, FF, gd, noDef, kindOf, sl1, allocs, isLit, ↓br_i, ↓reduceIte, reduceCtorEq, List.replicate, decide_eq_true_eq, decide_eq_false_iff_not, decide_true, decide_false, beq_self_eq_true, if_true, if_false, ite_not, Nat.le_refl, Int.cast_ofNat_Int, Nat.reduceAdd, Nat.reduceMul, Nat.reduceDiv, Nat.reduceMod, Nat.reduceSub, Nat.reduceEqDiff, Nat.reduceLT, Nat.reduceLeDiff, Nat.reduceBeqDiff, Int.reduceLT, Int.reduceLE, Int.reduceEq, Int.reduceToNat, Int.reduceAdd, Int.reduceSub, Int.reduceMul, Int.reduceNeg] at k
        conv at k in lp11x0 => simp only [lp11x0, subC, codeOf, Try.f11]
        rw [k, chk_k ks ws c b k1]
        simp only [tb11, hlen, hlew, tupC, RR, RC, FF, gd, noDef, kindOf, sl1, allocs, isLit, ↓br_i, ↓reduceIte, reduceCtorEq, List.replicate, decide_eq_true_eq, decide_eq_false_iff_not, decide_true, decide_false, beq_self_eq_true, if_true, if_false, ite_not, Nat.le_refl, Int.cast_ofNat_Int, Nat.reduceAdd, Nat.reduceMul, Nat.reduceDiv, Nat.reduceMod, Nat.reduceSub, Nat.reduceEqDiff, Nat.reduceLT, Nat.reduceLeDiff, Nat.reduceBeqDiff, Int.reduceLT, Int.reduceLE, Int.reduceEq, Int.reduceToNat, Int.reduceAdd, Int.reduceSub, Int.reduceMul, Int.reduceNeg]
  · rw [chk_x ks ws (by omega)]
    simp only [tb11, bookA, between_e', nums1_a, unI_n, unI_c, betw_n, betw_c, hlen, hlew, rng_n, c1, tupC, RR, RC, FF, gd, noDef, kindOf, sl1, allocs, isLit, ↓br_i, ↓reduceIte, reduceCtorEq, List.replicate, decide_eq_true_eq, decide_eq_false_iff_not, decide_true, decide_false, beq_self_eq_true, if_true, if_false, ite_not, Nat.le_refl, Int.cast_ofNat_Int, Nat.reduceAdd, Nat.reduceMul, Nat.reduceDiv, Nat.reduceMod, Nat.reduceSub, Nat.reduceEqDiff, Nat.reduceLT, Nat.reduceLeDiff, Nat.reduceBeqDiff, Int.reduceLT, Int.reduceLE, Int.reduceEq, Int.reduceToNat, Int.reduceAdd, Int.reduceSub, Int.reduceMul, Int.reduceNeg]
theorem check_e (f g : Bool) (ks : List Kd) (ws : List Wp) (h : Heap) : callEL KE 11 [.agg (bookA f g ks ws)] h = some (.val (tupC (chk ks ws)) h fp0) :=
  call_ret (E := KE) (f := 11) rfl rfl rfl (check_c f g ks ws) (fun _ => rfl) rfl
theorem refCheck_c (f g : Bool) (ks : List Kd) (ws : List Wp) : retOf (callL KE 12 [.agg (bookA f g ks ws)] []) = some (.ret (tupC (chk ks ws))) := by
  have hlen := kl_len ks
  have hlew := wl_len ws
  rw [cu12]
  conv in codeOf _ => simp only [codeOf, Try.f12]
  by_cases c0 : (ks.length : Int) < 1
  · rw [chk_x ks ws (by omega)]
    simp only [tb12, bookA, hlen, hlew, c0, tupC, RR, RC, FF, gd, noDef, kindOf, sl1, allocs, isLit, ↓br_i, ↓reduceIte, reduceCtorEq, List.replicate, decide_eq_true_eq, decide_eq_false_iff_not, decide_true, decide_false, beq_self_eq_true, if_true, if_false, ite_not, Nat.le_refl, Int.cast_ofNat_Int, Nat.reduceAdd, Nat.reduceMul, Nat.reduceDiv, Nat.reduceMod, Nat.reduceSub, Nat.reduceEqDiff, Nat.reduceLT, Nat.reduceLeDiff, Nat.reduceBeqDiff, Int.reduceLT, Int.reduceLE, Int.reduceEq, Int.reduceToNat, Int.reduceAdd, Int.reduceSub, Int.reduceMul, Int.reduceNeg]
  · by_cases c1 : (16 : Int) < (ks.length : Int)
    · rw [chk_x ks ws (by omega)]
      simp only [tb12, bookA, hlen, hlew, c0, c1, tupC, RR, RC, FF, gd, noDef, kindOf, sl1, allocs, isLit, ↓br_i, ↓reduceIte, reduceCtorEq, List.replicate, decide_eq_true_eq, decide_eq_false_iff_not, decide_true, decide_false, beq_self_eq_true, if_true, if_false, ite_not, Nat.le_refl, Int.cast_ofNat_Int, Nat.reduceAdd, Nat.reduceMul, Nat.reduceDiv, Nat.reduceMod, Nat.reduceSub, Nat.reduceEqDiff, Nat.reduceLT, Nat.reduceLeDiff, Nat.reduceBeqDiff, Int.reduceLT, Int.reduceLE, Int.reduceEq, Int.reduceToNat, Int.reduceAdd, Int.reduceSub, Int.reduceMul, Int.reduceNeg]
    · by_cases c2 : (16 : Int) < (ws.length : Int)
      · rw [chk_x ks ws (by omega)]
        simp only [tb12, bookA, hlen, hlew, c0, c1, c2, tupC, RR, RC, FF, gd, noDef, kindOf, sl1, allocs, isLit, ↓br_i, ↓reduceIte, reduceCtorEq, List.replicate, decide_eq_true_eq, decide_eq_false_iff_not, decide_true, decide_false, beq_self_eq_true, if_true, if_false, ite_not, Nat.le_refl, Int.cast_ofNat_Int, Nat.reduceAdd, Nat.reduceMul, Nat.reduceDiv, Nat.reduceMod, Nat.reduceSub, Nat.reduceEqDiff, Nat.reduceLT, Nat.reduceLeDiff, Nat.reduceBeqDiff, Int.reduceLT, Int.reduceLE, Int.reduceEq, Int.reduceToNat, Int.reduceAdd, Int.reduceSub, Int.reduceMul, Int.reduceNeg]
      · have c : 1 ≤ ks.length ∧ ks.length ≤ 16 ∧ ws.length ≤ 16 := by omega
        simp only [tb12, bookA, hlen, hlew, c0, c1, c2, RR, RC, FF, gd, noDef, kindOf, sl1, allocs, isLit, ↓br_i, ↓reduceIte, reduceCtorEq, List.replicate, decide_eq_true_eq, decide_eq_false_iff_not, decide_true, decide_false, beq_self_eq_true, if_true, if_false, ite_not, Nat.le_refl, Int.cast_ofNat_Int, Nat.reduceAdd, Nat.reduceMul, Nat.reduceDiv, Nat.reduceMod, Nat.reduceSub, Nat.reduceEqDiff, Nat.reduceLT, Nat.reduceLeDiff, Nat.reduceBeqDiff, Int.reduceLT, Int.reduceLE, Int.reduceEq, Int.reduceToNat, Int.reduceAdd, Int.reduceSub, Int.reduceMul, Int.reduceNeg]
        rcases loop12a f g ks ws (by omega) 0 lp12x0 rfl ks.length 0 (by omega) with ⟨k1, k⟩ | ⟨b, h, k1, k⟩
        · rw [List.drop_zero] at k1
          simp only [tq12a, bookH12, bookA, RR, RC, FF, gd, noDef, kindOf, sl1, allocs, isLit, ↓br_i, ↓reduceIte, reduceCtorEq, List.replicate, decide_eq_true_eq, decide_eq_false_iff_not, decide_true, decide_false, beq_self_eq_true, if_true, if_false, ite_not, Nat.le_refl, Int.cast_ofNat_Int, Nat.reduceAdd, Nat.reduceMul, Nat.reduceDiv, Nat.reduceMod, Nat.reduceSub, Nat.reduceEqDiff, Nat.reduceLT, Nat.reduceLeDiff, Nat.reduceBeqDiff, Int.reduceLT, Int.reduceLE, Int.reduceEq, Int.reduceToNat, Int.reduceAdd, Int.reduceSub, Int.reduceMul, Int.reduceNeg] at k
          conv at k in lp12x0 => simp only [lp12x0, subC, codeOf, Try.f12]
          rw [k]
          simp only [tb12, hlen, hlew, RR, RC, FF, gd, noDef, kindOf, sl1, allocs, isLit, ↓br_i, ↓reduceIte, reduceCtorEq, List.replicate, decide_eq_true_eq, decide_eq_false_iff_not, decide_true, decide_false, beq_self_eq_true, if_true, if_false, ite_not, Nat.le_refl, Int.cast_ofNat_Int, Nat.reduceAdd, Nat.reduceMul, Nat.reduceDiv, Nat.reduceMod, Nat.reduceSub, Nat.reduceEqDiff, Nat.reduceLT, Nat.reduceLeDiff, Nat.reduceBeqDiff, Int.reduceLT, Int.reduceLE, Int.reduceEq, Int.reduceToNat, Int.reduceAdd, Int.reduceSub, Int.reduceMul, Int.reduceNeg]
          rcases loop12b f g ks ws (by omega) 0 lp12x1 rfl ws.length 0 (by omega) with ⟨m1, k⟩ | ⟨b, h, m1, k⟩
          · rw [List.drop_zero] at m1
            simp only [tq12b, bookH12, bookA, RR, RC, FF, gd, noDef, kindOf, sl1, allocs, isLit, ↓br_i, ↓reduceIte, reduceCtorEq, List.replicate, decide_eq_true_eq, decide_eq_false_iff_not, decide_true, decide_false, beq_self_eq_true, if_true, if_false, ite_not, Nat.le_refl, Int.cast_ofNat_Int, Nat.reduceAdd, Nat.reduceMul, Nat.reduceDiv, Nat.reduceMod, Nat.reduceSub, Nat.reduceEqDiff, Nat.reduceLT, Nat.reduceLeDiff, Nat.reduceBeqDiff, Int.reduceLT, Int.reduceLE, Int.reduceEq, Int.reduceToNat, Int.reduceAdd, Int.reduceSub, Int.reduceMul, Int.reduceNeg] at k
            conv at k in lp12x1 => simp only [lp12x1, subC, codeOf, Try.f12]
            rw [k, chk_o ks ws c k1 m1]
            simp only [tb12, hlen, hlew, tupC, RR, RC, FF, gd, noDef, kindOf, sl1, allocs, isLit, ↓br_i, ↓reduceIte, reduceCtorEq, List.replicate, decide_eq_true_eq, decide_eq_false_iff_not, decide_true, decide_false, beq_self_eq_true, if_true, if_false, ite_not, Nat.le_refl, Int.cast_ofNat_Int, Nat.reduceAdd, Nat.reduceMul, Nat.reduceDiv, Nat.reduceMod, Nat.reduceSub, Nat.reduceEqDiff, Nat.reduceLT, Nat.reduceLeDiff, Nat.reduceBeqDiff, Int.reduceLT, Int.reduceLE, Int.reduceEq, Int.reduceToNat, Int.reduceAdd, Int.reduceSub, Int.reduceMul, Int.reduceNeg]
          · rw [List.drop_zero] at m1
            simp only [tq12b, bookH12, bookA, RR, RC, FF, gd, noDef, kindOf, sl1, allocs, isLit, ↓br_i, ↓reduceIte, reduceCtorEq, List.replicate, decide_eq_true_eq, decide_eq_false_iff_not, decide_true, decide_false, beq_self_eq_true, if_true, if_false, ite_not, Nat.le_refl, Int.cast_ofNat_Int, Nat.reduceAdd, Nat.reduceMul, Nat.reduceDiv, Nat.reduceMod, Nat.reduceSub, Nat.reduceEqDiff, Nat.reduceLT, Nat.reduceLeDiff, Nat.reduceBeqDiff, Int.reduceLT, Int.reduceLE, Int.reduceEq, Int.reduceToNat, Int.reduceAdd, Int.reduceSub, Int.reduceMul, Int.reduceNeg] at k
            conv at k in lp12x1 => simp only [lp12x1, subC, codeOf, Try.f12]
            rw [k, chk_w ks ws c b k1 m1]
            simp only [tb12, hlen, hlew, tupC, RR, RC, FF, gd, noDef, kindOf, sl1, allocs, isLit, ↓br_i, ↓reduceIte, reduceCtorEq, List.replicate, decide_eq_true_eq, decide_eq_false_iff_not, decide_true, decide_false, beq_self_eq_true, if_true, if_false, ite_not, Nat.le_refl, Int.cast_ofNat_Int, Nat.reduceAdd, Nat.reduceMul, Nat.reduceDiv, Nat.reduceMod, Nat.reduceSub, Nat.reduceEqDiff, Nat.reduceLT, Nat.reduceLeDiff, Nat.reduceBeqDiff, Int.reduceLT, Int.reduceLE, Int.reduceEq, Int.reduceToNat, Int.reduceAdd, Int.reduceSub, Int.reduceMul, Int.reduceNeg]
        · rw [List.drop_zero] at k1
          simp only [tq12a, bookH12, bookA, RR, RC, FF, gd, noDef, kindOf, sl1, allocs, isLit, ↓br_i, ↓reduceIte, reduceCtorEq, List.replicate, decide_eq_true_eq, decide_eq_false_iff_not, decide_true, decide_false, beq_self_eq_true, if_true, if_false, ite_not, Nat.le_refl, Int.cast_ofNat_Int, Nat.reduceAdd, Nat.reduceMul, Nat.reduceDiv, Nat.reduceMod, Nat.reduceSub, Nat.reduceEqDiff, Nat.reduceLT, Nat.reduceLeDiff, Nat.reduceBeqDiff, Int.reduceLT, Int.reduceLE, Int.reduceEq, Int.reduceToNat, Int.reduceAdd, Int.reduceSub, Int.reduceMul, Int.reduceNeg] at k
          conv at k in lp12x0 => simp only [lp12x0, subC, codeOf, Try.f12]
          rw [k, chk_k ks ws c b k1]
          simp only [tb12, hlen, hlew, tupC, RR, RC, FF, gd, noDef, kindOf, sl1, allocs, isLit, ↓br_i, ↓reduceIte, reduceCtorEq, List.replicate, decide_eq_true_eq, decide_eq_false_iff_not, decide_true, decide_false, beq_self_eq_true, if_true, if_false, ite_not, Nat.le_refl, Int.cast_ofNat_Int, Nat.reduceAdd, Nat.reduceMul, Nat.reduceDiv, Nat.reduceMod, Nat.reduceSub, Nat.reduceEqDiff, Nat.reduceLT, Nat.reduceLeDiff, Nat.reduceBeqDiff, Int.reduceLT, Int.reduceLE, Int.reduceEq, Int.reduceToNat, Int.reduceAdd, Int.reduceSub, Int.reduceMul, Int.reduceNeg]
theorem refCheck_e (f g : Bool) (ks : List Kd) (ws : List Wp) (h : Heap) : callEL KE 12 [.agg (bookA f g ks ws)] h = some (.val (tupC (chk ks ws)) h fp0) :=
  call_ret (E := KE) (f := 12) rfl rfl rfl (refCheck_c f g ks ws) (fun _ => rfl) rfl

theorem slice_kl (ks : List Kd) : slice (kl ks) 0 18 = kl (ks.take 18) := by simp [slice, kl]
theorem slice_wl (ws : List Wp) : slice (wl ws) 0 18 = wl (ws.take 18) := by simp [slice, wl]
theorem allLen_kl (ks : List Kd) : allLen 20 (kl ks) = true := by induction ks with | nil => rfl | cons k ks ih => simpa [kl, allLen, Kd.cells] using ih
theorem allLen_wl (ws : List Wp) : allLen 6 (wl ws) = true := by induction ws with | nil => rfl | cons k ks ih => simpa [wl, allLen, Wp.cells] using ih
theorem few_c (f g : Bool) (ks : List Kd) (ws : List Wp) : ∃ f' g', retOf (callL KE 10 [.agg (bookA f g ks ws)] []) = some (.ret (.agg (bookA f' g' (ks.take 18) (ws.take 18)))) := by
  have hlen := kl_len ks
  have hlew := wl_len ws
  have a1 := allLen_kl ks
  have a2 := allLen_wl ws
  have s1 := slice_kl ks
  have s2 := slice_wl ws
  obtain ⟨X, hX⟩ : ∃ X, retOf (callL KE 10 [.agg (bookA f g ks ws)] []) = X := ⟨_, rfl⟩
  rw [hX]
  rw [cu10] at hX
  conv at hX in codeOf _ => simp only [codeOf, Try.f10]
  by_cases c1 : (18 : Int) < (ks.length : Int) <;> by_cases c2 : (18 : Int) < (ws.length : Int)
  all_goals
    have d1 := c1
    have d2 := c2
    try have d1 : (18 : Int) ≤ (ks.length : Int) := by omega
    try have d2 : (18 : Int) ≤ (ws.length : Int) := by omega
    simp only [tb10, bookA, hlen, hlew, c1, c2, d1, d2, Nat.zero_le, a1, a2, s1, s2, Nat.sub_zero, RR, RC, FF, gd, noDef, kindOf, sl1, allocs, isLit, ↓br_i, ↓reduceIte, reduceCtorEq, List.replicate, decide_eq_true_eq, decide_eq_false_iff_not, decide_true, decide_false, beq_self_eq_true, if_true, if_false, ite_not, Nat.le_refl, Int.cast_ofNat_Int, Nat.reduceAdd, Nat.reduceMul, Nat.reduceDiv, Nat.reduceMod, Nat.reduceSub, Nat.reduceEqDiff, Nat.reduceLT, Nat.reduceLeDiff, Nat.reduceBeqDiff, Int.reduceLT, Int.reduceLE, Int.reduceEq, Int.reduceToNat, Int.reduceAdd, Int.reduceSub, Int.reduceMul, Int.reduceNeg] at hX
  all_goals subst hX
  · exact ⟨_, _, rfl⟩
  · rw [List.take_of_length_le (show ws.length ≤ 18 by omega)]; exact ⟨_, _, rfl⟩
  · rw [List.take_of_length_le (show ks.length ≤ 18 by omega)]; exact ⟨_, _, rfl⟩
  · rw [List.take_of_length_le (show ks.length ≤ 18 by omega), List.take_of_length_le (show ws.length ≤ 18 by omega)]; exact ⟨_, _, rfl⟩
theorem few_e (f g : Bool) (ks : List Kd) (ws : List Wp) : ∃ f' g', ∀ h, callEL KE 10 [.agg (bookA f g ks ws)] h = some (.val (.agg (bookA f' g' (ks.take 18) (ws.take 18))) h fp0) := by
  obtain ⟨f', g', hf⟩ := few_c f g ks ws
  exact ⟨f', g', fun h => call_ret (E := KE) (f := 10) rfl rfl rfl hf (fun _ => rfl) rfl⟩
theorem awake_c : retOf (callL KE 9 [] []) = some (.ret (bl true)) := by
  have h := awakeK
  unfold isTrue at h
  split at h
  · next h' e => rw [callL_of e]; rfl
  · cases h
theorem awake_e (h : Heap) : callEL KE 9 [] h = some (.val (bl true) h fp0) := call_ret (E := KE) (f := 9) rfl rfl rfl awake_c (fun _ => rfl) rfl
theorem checks_c (f g : Bool) (ks : List Kd) (ws : List Wp) : retOf (callL KE 4 [.agg (bookA f g ks ws)] []) = some (.ret (bl true)) := by
  obtain ⟨f', g', hf⟩ := few_e f g ks ws
  have c1 := check_e f' g' (ks.take 18) (ws.take 18)
  have c2 := refCheck_e f' g' (ks.take 18) (ws.take 18)
  simp only [bookA, tupC] at hf c1 c2
  rw [cu4]
  conv in codeOf _ => simp only [codeOf, Try.f4]
  simp only [tb4, bookA, hf, c1, c2, awake_e, RR, RC, FF, gd, noDef, kindOf, sl1, allocs, isLit, ↓br_i, ↓reduceIte, reduceCtorEq, List.replicate, decide_eq_true_eq, decide_eq_false_iff_not, decide_true, decide_false, beq_self_eq_true, if_true, if_false, ite_not, Nat.le_refl, Int.cast_ofNat_Int, Nat.reduceAdd, Nat.reduceMul, Nat.reduceDiv, Nat.reduceMod, Nat.reduceSub, Nat.reduceEqDiff, Nat.reduceLT, Nat.reduceLeDiff, Nat.reduceBeqDiff, Int.reduceLT, Int.reduceLE, Int.reduceEq, Int.reduceToNat, Int.reduceAdd, Int.reduceSub, Int.reduceMul, Int.reduceNeg]
end Go.AM
