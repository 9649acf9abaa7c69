/- What serving comes to in the machine; each under its own hypotheses alone. -/
import Derived.Test.YtlmfdlmbahlojaaPT
set_option autoImplicit false
set_option maxRecDepth 100000
set_option linter.unusedSimpArgs false
namespace Go.AM
open Go Go.RowKit Go.Proofs

theorem add_c (a b x y : Int) : callL PE 9 [.agg [i64 a, i64 b], .ptr 0 0 0 0] [.arr 0 false 2 [] [[i64 x, i64 y]]] =
    some (.ret (.tup []), [.arr 0 false 2 [] [[i64 (IntKind.i64.wrap (x + a)), i64 (IntKind.i64.wrap (y + b))]], .arr 0 false 2 [] [[i64 a, i64 b]]]) := by
  rw [cu9]
  conv in codeOf _ => simp only [codeOf, Try.f9]
  simp only [tb9, RR, RC, FF, pext, gd, noDef, kindOf, sl1, allocs, isLit, ↓br_i, ↓reduceIte, reduceCtorEq, List.replicate, decide_eq_true_eq, decide_eq_false_iff_not, decide_true, decide_false, beq_self_eq_true, if_true, if_false, ite_not, Nat.le_refl, Int.cast_ofNat_Int, Nat.reduceAdd, Nat.reduceMul, Nat.reduceDiv, Nat.reduceMod, Nat.reduceSub, Nat.reduceEqDiff, Nat.reduceLT, Nat.reduceLeDiff, Nat.reduceBeqDiff, Int.reduceLT, Int.reduceLE, Int.reduceEq, Int.reduceToNat, Int.reduceAdd, Int.reduceSub, Int.reduceMul, Int.reduceNeg]
  rw [g_dops_nil]
  rotate_left
  · kernel_rfl
  simp only [tb9, RR, RC, FF, pext, gd, noDef, kindOf, sl1, allocs, isLit, ↓br_i, ↓reduceIte, reduceCtorEq, List.replicate, decide_eq_true_eq, decide_eq_false_iff_not, decide_true, decide_false, beq_self_eq_true, if_true, if_false, ite_not, Nat.le_refl, Int.cast_ofNat_Int, Nat.reduceAdd, Nat.reduceMul, Nat.reduceDiv, Nat.reduceMod, Nat.reduceSub, Nat.reduceEqDiff, Nat.reduceLT, Nat.reduceLeDiff, Nat.reduceBeqDiff, Int.reduceLT, Int.reduceLE, Int.reduceEq, Int.reduceToNat, Int.reduceAdd, Int.reduceSub, Int.reduceMul, Int.reduceNeg]

def wl (w : List (Int × Int)) : List (List AV) := w.map fun p => [i64 p.1, i64 p.2]
theorem wl_nth (w : List (Int × Int)) (i : Nat) (hi : i < w.length) : nth (wl w) i = some [i64 w[i].1, i64 w[i].2] := by rw [← nth_eq]; simp [wl, hi]
theorem wl_len (w : List (Int × Int)) : (wl w).length = w.length := by simp [wl]
theorem wrapN (i : Nat) (hi : i ≤ 1000) : IntKind.i64.wrap ((i : Int) + 1) = ((i + 1 : Nat) : Int) := by rw [wrapI _ (by omega) (by omega)]; omega

def tq1 (full : Bool) (w : List (Int × Int)) (i : Int) : List (Nat × AV) := [(2, .sl full (wl w)), (3, .ptr 0 0 0 0), (4, .ptr 1 0 0 0), (6, .ptr 2 0 0 0), (10, .ptr 3 0 0 0), (11, .fn 9 [.ptr 3 0 0 0]), (41, .sl full (wl w)), (42, i64 w.length), (43, i64 i)]
def hq1 (a b c d m e x y : Int) : Heap := [.arr 0 false 4 [] [[i64 a, i64 b, i64 c, i64 d]], .arr 0 false 2 [] [[i64 m, i64 e]], .arr 0 false 4 [] [[i64 0, i64 0, i64 0, i64 0]], .arr 0 false 2 [] [[i64 x, i64 y]]]
theorem round1 (full : Bool) (w : List (Int × Int)) (hl : w.length ≤ 1000) (a b c d m e x y : Int) (i : Nat) (hi : i < w.length) (hw : isWish w[i].1 w[i].2 = true) (cd : Code) (hb : cd = lp5x0) :
    loopL PE cd 4 (T.of (tq1 full w 0)) ⟨T.of (tq1 full w i), hq1 a b c d m e x y, [], PE.keep 5⟩ =
    loopL PE cd 4 (T.of (tq1 full w 0)) ⟨T.of (tq1 full w (i + 1 : Nat)), hq1 a b c d m e (IntKind.i64.wrap (x + w[i].1)) (IntKind.i64.wrap (y + w[i].2)), [], PE.keep 5⟩ := by
  subst hb
  have cq := callEL_eq PE 9
  have ac := add_c w[i].1 w[i].2 x y
  have hn := wl_nth w i hi
  have hlen := wl_len w
  have hi1 : (i : Int) < (w.length : Int) := by omega
  have hi2 : (0 : Int) ≤ (i : Int) := by omega
  have hi3 : (i : Int).toNat = i := by omega
  have hi4 := wrapN i (by omega)
  rw [loopL_go]
  conv in lp5x0 => simp only [lp5x0, subC, codeOf, Try.f5]
  simp only [tb5, tq1, hq1, wish_e, hw, hn, hlen, hi1, hi2, hi3, hi4, cq, ac, pw9, nth_eq, callBy, inOf, meets, allLt, memFor, roReg, back, outOf, outRefs, keeps, freezeOut, freeze1, sameVer, backTo, wroteBack, writeBack, markRo, marksOf, outσ, baseOf, ifWr, getD0, hasSl, hasSlL, regRefs, List.range, List.range.loop, List.filter, List.map, slRefs, slRefsL, List.isEmpty, mem, RR, RC, FF, pext, gd, noDef, kindOf, sl1, allocs, isLit, ↓br_i, ↓reduceIte, reduceCtorEq, List.replicate, decide_eq_true_eq, decide_eq_false_iff_not, decide_true, decide_false, beq_self_eq_true, if_true, if_false, ite_not, Nat.le_refl, Int.cast_ofNat_Int, Nat.reduceAdd, Nat.reduceMul, Nat.reduceDiv, Nat.reduceMod, Nat.reduceSub, Nat.reduceEqDiff, Nat.reduceLT, Nat.reduceLeDiff, Nat.reduceBeqDiff, Int.reduceLT, Int.reduceLE, Int.reduceEq, Int.reduceToNat, Int.reduceAdd, Int.reduceSub, Int.reduceMul, Int.reduceNeg]
theorem round1e (full : Bool) (w : List (Int × Int)) (a b c d m e x y : Int) (cd : Code) (hb : cd = lp5x0) :
    loopL PE cd 4 (T.of (tq1 full w 0)) ⟨T.of (tq1 full w w.length), hq1 a b c d m e x y, [], PE.keep 5⟩ =
    some (.exit 0, ⟨T.of (tq1 full w w.length ++ [(44, bl false)]), hq1 a b c d m e x y, [], PE.keep 5⟩) := by
  subst hb
  have hlen := wl_len w
  have hi1 : ¬ (w.length : Int) < (w.length : Int) := by omega
  rw [loopL_go]
  conv in lp5x0 => simp only [lp5x0, subC, codeOf, Try.f5]
  simp only [tb5, tq1, hq1, hlen, hi1, nth_eq, callBy, inOf, meets, allLt, memFor, roReg, back, outOf, outRefs, keeps, freezeOut, freeze1, sameVer, backTo, wroteBack, writeBack, markRo, marksOf, outσ, baseOf, ifWr, getD0, hasSl, hasSlL, regRefs, List.range, List.range.loop, List.filter, List.map, slRefs, slRefsL, List.isEmpty, mem, RR, RC, FF, pext, gd, noDef, kindOf, sl1, allocs, isLit, ↓br_i, ↓reduceIte, reduceCtorEq, List.replicate, decide_eq_true_eq, decide_eq_false_iff_not, decide_true, decide_false, beq_self_eq_true, if_true, if_false, ite_not, Nat.le_refl, Int.cast_ofNat_Int, Nat.reduceAdd, Nat.reduceMul, Nat.reduceDiv, Nat.reduceMod, Nat.reduceSub, Nat.reduceEqDiff, Nat.reduceLT, Nat.reduceLeDiff, Nat.reduceBeqDiff, Int.reduceLT, Int.reduceLE, Int.reduceEq, Int.reduceToNat, Int.reduceAdd, Int.reduceSub, Int.reduceMul, Int.reduceNeg]
theorem round1x (full : Bool) (w : List (Int × Int)) (a b c d m e x y : Int) (i : Nat) (hi : i < w.length) (hw : isWish w[i].1 w[i].2 = false) (cd : Code) (hb : cd = lp5x0) :
    loopL PE cd 4 (T.of (tq1 full w 0)) ⟨T.of (tq1 full w i), hq1 a b c d m e x y, [], PE.keep 5⟩ =
    some (.ret, ⟨T.of [(6, .ptr 2 0 0 0), (7, i64 0), (8, .sl true []), (9, i64 1)], hq1 a b c d m e x y ++ [.arr 0 false 2 [] [[i64 w[i].1, i64 w[i].2]]], [], PE.keep 5⟩) := by
  subst hb
  have hn := wl_nth w i hi
  have hlen := wl_len w
  have hi1 : (i : Int) < (w.length : Int) := by omega
  have hi2 : (0 : Int) ≤ (i : Int) := by omega
  have hi3 : (i : Int).toNat = i := by omega
  rw [loopL_go]
  conv in lp5x0 => simp only [lp5x0, subC, codeOf, Try.f5]
  simp only [tb5, tq1, hq1, wish_e, hw, hn, hlen, hi1, hi2, hi3, nth_eq, callBy, inOf, meets, allLt, memFor, roReg, back, outOf, outRefs, keeps, freezeOut, freeze1, sameVer, backTo, wroteBack, writeBack, markRo, marksOf, outσ, baseOf, ifWr, getD0, hasSl, hasSlL, regRefs, List.range, List.range.loop, List.filter, List.map, slRefs, slRefsL, List.isEmpty, mem, RR, RC, FF, pext, gd, noDef, kindOf, sl1, allocs, isLit, ↓br_i, ↓reduceIte, reduceCtorEq, List.replicate, decide_eq_true_eq, decide_eq_false_iff_not, decide_true, decide_false, beq_self_eq_true, if_true, if_false, ite_not, Nat.le_refl, Int.cast_ofNat_Int, Nat.reduceAdd, Nat.reduceMul, Nat.reduceDiv, Nat.reduceMod, Nat.reduceSub, Nat.reduceEqDiff, Nat.reduceLT, Nat.reduceLeDiff, Nat.reduceBeqDiff, Int.reduceLT, Int.reduceLE, Int.reduceEq, Int.reduceToNat, Int.reduceAdd, Int.reduceSub, Int.reduceMul, Int.reduceNeg]

theorem isWish_le {a b : Int} (h : isWish a b = true) : 0 ≤ a ∧ a ≤ 1048576 ∧ 0 ≤ b ∧ b ≤ 1048576 := by
  simp [isWish, wi] at h; omega

/-- All wants may be, from i on: the sums; or one may not. -/
theorem loop1 (full : Bool) (w : List (Int × Int)) (hl : w.length ≤ 64) (a b c d m e : Int) (cd : Code) (hb : cd = lp5x0) : ∀ (n i : Nat) (x y : Int), i + n = w.length → 0 ≤ x → x ≤ i * 1048576 → 0 ≤ y → y ≤ i * 1048576 →
    ((∀ p ∈ w.drop i, isWish p.1 p.2 = true) ∧ ∃ x' y', 0 ≤ x' ∧ x' ≤ 67108864 ∧ 0 ≤ y' ∧ y' ≤ 67108864 ∧ loopL PE cd 4 (T.of (tq1 full w 0)) ⟨T.of (tq1 full w i), hq1 a b c d m e x y, [], PE.keep 5⟩ =
      some (.exit 0, ⟨T.of (tq1 full w w.length ++ [(44, bl false)]), hq1 a b c d m e x' y', [], PE.keep 5⟩)) ∨
    ((∃ p ∈ w.drop i, isWish p.1 p.2 = false) ∧ ∃ x' y' p q, loopL PE cd 4 (T.of (tq1 full w 0)) ⟨T.of (tq1 full w i), hq1 a b c d m e x y, [], PE.keep 5⟩ =
      some (.ret, ⟨T.of [(6, .ptr 2 0 0 0), (7, i64 0), (8, .sl true []), (9, i64 1)], hq1 a b c d m e x' y' ++ [.arr 0 false 2 [] [[i64 p, i64 q]]], [], PE.keep 5⟩)) := by
  intro n
  induction n with
  | zero =>
    intro i x y hn h1 h2 h3 h4
    have : i = w.length := by omega
    subst this
    refine .inl ⟨by simp, x, y, h1, by omega, h3, by omega, round1e full w a b c d m e x y cd hb⟩
  | succ n ih =>
    intro i x y hn h1 h2 h3 h4
    have hi : i < w.length := by omega
    have hd : w.drop i = w[i] :: w.drop (i + 1) := List.drop_eq_getElem_cons hi
    cases hw : isWish w[i].1 w[i].2 with
    | false =>
      refine .inr ⟨⟨w[i], by rw [hd]; exact List.mem_cons_self, hw⟩, x, y, _, _, round1x full w a b c d m e x y i hi hw cd hb⟩
    | true =>
      have hz := isWish_le hw
      have e1 : IntKind.i64.wrap (x + w[i].1) = x + w[i].1 := wrapI _ (by omega) (by omega)
      have e2 : IntKind.i64.wrap (y + w[i].2) = y + w[i].2 := wrapI _ (by omega) (by omega)
      have hr := round1 full w (by omega) a b c d m e x y i hi hw cd hb
      rw [e1, e2] at hr
      rcases ih (i + 1) (x + w[i].1) (y + w[i].2) (by omega) (by omega) (by omega) (by omega) (by omega) with ⟨k1, k2⟩ | ⟨k1, k2⟩
      · refine .inl ⟨?_, ?_⟩
        · rw [hd]; intro p hp
          rcases List.mem_cons.1 hp with rfl | hp
          · exact hw
          · exact k1 p hp
        · rw [hr]; exact k2
      · refine .inr ⟨?_, ?_⟩
        · obtain ⟨p, hp, hq⟩ := k1
          exact ⟨p, by rw [hd]; exact List.mem_cons_of_mem _ hp, hq⟩
        · rw [hr]; exact k2
end Go.AM
